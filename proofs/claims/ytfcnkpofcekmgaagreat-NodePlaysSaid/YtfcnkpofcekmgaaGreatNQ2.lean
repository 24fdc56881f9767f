/- Texts joined. -/
import Derived.Test.YtfcnkpofcekmgaaGreatNQ1
import Derived.Test.YtfcnkpofcekmgaaGreatProg
import Derived.KernelRfl
import Derived.Outline
set_option maxRecDepth 100000
set_option maxHeartbeats 64000000
namespace Go.Proofs.YtfcnkpofcekmgaaGreat
open Go.RowKit
def bv (x:UInt8):Value:= .int .u8 (x.toNat:Int)
def bvs (l:List UInt8):List Value:=l.map bv
theorem yO (l:List UInt8):(bvs l).length=l.length:=by simp [bvs]
theorem gF (l m:List UInt8):bvs (l++m)=bvs l++bvs m:=by simp [bvs]
theorem dL (l:List UInt8):∀u∈bvs l,u.oneCell'=true:=by
 intro u hu;obtain ⟨x,_,rfl⟩:=List.mem_map.1 hu;rfl
theorem zHE (l:List UInt8) (j:Nat) (u:Value) (h:(bvs l)[j]? =some u):∃hj:j<l.length,u= .int .u8 (l[j].toNat:Int):=by
 unfold bvs at h;rw [List.getElem?_map] at h;obtain ⟨x,hx,rfl⟩:=Option.map_eq_some_iff.1 h;obtain ⟨hj,rfl⟩:=List.getElem?_eq_some_iff.1 hx;exact ⟨hj,rfl⟩
theorem mD (l:List UInt8) (j:Nat) (hj:j<l.length):(bvs l)[j]? =some (.int .u8 (l[j].toNat:Int)):=by
 simp [bvs,hj,bv]
theorem cY (l:List UInt8) (n:Nat):bvs (l.take n)=(bvs l).take n:=by simp [bvs]
theorem g7 (l:List UInt8) (j:Nat) (x:UInt8):bvs (l.set j x)=(bvs l).set j (.int .u8 (x.toNat:Int)):=by simp [bvs,List.map_set,bv]
theorem jZ (n:Nat):bvs (List.replicate n 0)=List.replicate n (.int .u8 0):=by simp [bvs,bv]
theorem sP (l:List UInt8) (o:Nat) (m:List UInt8):bvs (splice l o m)=splice (bvs l) o (bvs m):=by simp [splice,bvs]
def RdB (w:World) (v:Value) (l:List UInt8):Prop:=
 ∃A c,v= .slice A l.length c∧l.length≤c∧c≤maxLen∧∀j (h:j<l.length),∃ad,A=some ad∧w.cell? (ad.add j)=some (.int .u8 (l[j].toNat:Int))
section RdB
variable {w w':World} {v:Value} {l m:List UInt8}
theorem RdB.rd (h:RdB w v l):Rd w 1 v l.length (bvs l):=by
 obtain ⟨A,c,rfl,h1,h2,h3⟩:=h;refine ⟨by simp [yO],A,c,rfl,h1,h2,fun j u hj=> ?_⟩;obtain ⟨hj',rfl⟩:=zHE l j u hj;exact h3 j hj'
theorem RdB.of_rd {n:Nat} (h:Rd w 1 v n (bvs l)):RdB w v l:=by
 obtain ⟨h0,A,c,rfl,h1,h2,h3⟩:=h
 have hn:n=l.length:=by simpa [yO] using h0.symm
 subst hn;exact ⟨A,c,rfl,h1,h2,fun j hj=>h3 j _ (mD l j hj)⟩
theorem RdB.keep (h:RdB w v l) (hk:∀p:Addr,p.block<w.heap.size→w'.cell? p=w.cell? p):RdB w' v l:=by
 obtain ⟨A,c,rfl,h1,h2,h3⟩:=h;refine ⟨A,c,rfl,h1,h2,fun j hj=> ?_⟩;obtain ⟨ad,ha,hc⟩:=h3 j hj;exact ⟨ad,ha,(hk _ (World.block_lt_of_cell? w _ hc)).trans hc⟩
theorem RdB.below (h:RdB w v l) {B:Nat} (hb:Below B w w') (hB:w.heap.size≤B):RdB w' v l:=h.keep fun _ hp=>hb.cell (by omega)
theorem RdB.alloc (h:RdB w v l) (o:Obj):RdB (w.alloc o) v l:=h.keep fun p hp=>World.cell?_alloc_lt w o p hp
theorem RdB.drew (h:RdB w v l):RdB w.drew v l:=h
theorem RdB.nil:RdB w (.slice none 0 0) []:=⟨none,0,rfl,by simp,by simp,fun j h=>absurd h (by simp)⟩
theorem RdB.le (h:RdB w v l):l.length≤9223372036854775807:=by
 obtain ⟨A,c,rfl,h1,h2,h3⟩:=h;simp only [maxLen] at h2;omega
theorem RdB.at_ {A:Option Addr} {n c j:Nat} (h:RdB w (.slice A n c) l) (hj:j<l.length):∃ad,A=some ad∧w.cell? (ad.add j)=some (.int .u8 (l[j].toNat:Int)):=by
 obtain ⟨A,c,hv,h1,h2,h3⟩:=h;injection hv with hA;subst hA;exact h3 j hj
theorem RdB.cut {A:Option Addr} {n c lo hi:Nat} (h:RdB w (.slice A n c) l) (hlo:lo≤hi) (hhi:hi≤l.length):
 RdB w (.slice (if c=lo then A else A.map (·.add lo)) (hi-lo) (c-lo)) ((l.take hi).drop lo):=by
 obtain ⟨A,c,hv,h1,h2,h3⟩:=h;injection hv with hA hn hc;subst hA;subst hc
 have hlen:((l.take hi).drop lo).length=hi-lo:=by simp;omega
 refine ⟨_,_,by rw [hlen],by rw [hlen];omega,by omega,fun j hj=> ?_⟩;rw [hlen] at hj;obtain ⟨ad,rfl,hcell⟩:=h3 (lo+j) (by omega);rw [if_neg (by omega)];refine ⟨ad.add lo,rfl,?_⟩;rw [jW,hcell]
 simp
end RdB
def RdL (w:World) (v:Value) (ls:List (List UInt8)):Prop:=
 ∃vs:List Value,Rd w 1 v vs.length vs∧vs.length=ls.length∧∀i (h:i<ls.length),∃u,vs[i]? =some u∧RdB w u ls[i]
theorem RdL.keep {w w':World} {v:Value} {ls:List (List UInt8)} (h:RdL w v ls) (hk:∀p:Addr,p.block<w.heap.size→w'.cell? p=w.cell? p):RdL w' v ls:=by
 obtain ⟨vs,h1,h2,h3⟩:=h;refine ⟨vs,h1.keep hk,h2,fun i hi=> ?_⟩;obtain ⟨u,hu,hr⟩:=h3 i hi;exact ⟨u,hu,hr.keep hk⟩
theorem RdL.below {w w':World} {v:Value} {ls:List (List UInt8)} (h:RdL w v ls) {B:Nat} (hb:Below B w w') (hB:w.heap.size≤B):RdL w' v ls:=h.keep fun _ hp=>hb.cell (by omega)
theorem RdB.form {w:World} {v:Value} {l:List UInt8} (h:RdB w v l):∃A c,v= .slice A l.length c∧l.length≤9223372036854775807:=by
 have:=h.le
 obtain ⟨A,c,rfl,_⟩:=h;exact ⟨A,c,rfl,this⟩
theorem RdL.form {w:World} {v:Value} {ls:List (List UInt8)} (h:RdL w v ls):∃A c,v= .slice A ls.length c∧ls.length≤9223372036854775807:=by
 obtain ⟨vs,⟨_,A,c,rfl,h1,h2,_⟩,h3,_⟩:=h;simp only [maxLen] at h2;exact ⟨A,c,by rw [h3],by omega⟩
theorem RdL.at_ {w:World} {A:Option Addr} {n c:Nat} {ls:List (List UInt8)} (h:RdL w (.slice A n c) ls) {k:Nat} (hk:k<ls.length):
 ∃ad A2 c2,A=some ad∧w.cell? (ad.add k)=some (.slice A2 ls[k].length c2)∧RdB w (.slice A2 ls[k].length c2) ls[k]:=by
 obtain ⟨vs,⟨_,A',c',hv,_,_,hc⟩,_,hr⟩:=h;obtain ⟨u,hu,hru⟩:=hr k hk;obtain ⟨ad,ha,hcell⟩:=hc k u hu;injection hv with hA;obtain ⟨A2,c2,rfl,h'⟩:=hru;exact ⟨ad,A2,c2,hA.trans ha,hcell,A2,c2,rfl,h'⟩
theorem RdL.one {w:World} {u:Value} {l:List UInt8} (h:RdB w u l) (T:TypeId):RdL (w.alloc (.cells #[u] T)) (.slice (some ⟨w.heap.size,0,none⟩) 1 1) [l]:=
 ⟨[u],Rd.one w u T,rfl,fun i hi=>by
  obtain rfl:i=0:=by simpa using hi
  exact ⟨u,rfl,h.alloc _⟩⟩
def OwB (w:World) (base:Nat) (v:Value) (l:List UInt8):Prop:=Own w base 5 1 v l.length (bvs l)
section OwB
variable {w w':World} {v:Value} {l m:List UInt8} {base:Nat}
theorem OwB.nil (w:World) (base:Nat):OwB w base (.slice none 0 0) []:=Own.nil w base _ _
theorem OwB.rd (h:OwB w base v l):RdB w v l:=RdB.of_rd (Own.rd h)
theorem OwB.lt (h:OwB w base v l):∀g,v.ownBlock=some g→base≤g∧g<w.heap.size:=Own.lt h
theorem OwB.grown {row:Option Nat} (h:OwB w base v l) (hg:w.grownBy w' row) (hne:∀g,v.ownBlock=some g→some g≠row):OwB w' base v l:=Own.grown h hg hne
theorem OwB.below {B:Nat} (h:OwB w base v l) (hb:Below B w w') (hB:∀g,v.ownBlock=some g→g<B):OwB w' base v l:=Own.below h hb hB
theorem OwB.below' {B:Nat} (h:OwB w base v l) (hb:Below B w w') (hB:w.heap.size≤B):OwB w' base v l:=Own.below' h hb hB
theorem OwB.alloc (h:OwB w base v l) (o:Obj):OwB (w.alloc o) base v l:=Own.alloc h o
theorem OwB.drew (h:OwB w base v l):OwB w.drew base v l:=h
theorem OwB.low (h:OwB w base v l) {b:Nat} (hb:b≤base):OwB w b v l:=Own.low h hb
theorem OwB.base_le (h:OwB w base v l) {b:Nat} (hb:∀g,v.ownBlock=some g→b≤g):OwB w b v l:=Own.base_le h hb
theorem OwB.form (h:OwB w base v l):(v= .slice none 0 0∧l= [])∨∃g cap,v= .slice (some ⟨g,0,none⟩) l.length cap∧base≤g∧g<w.heap.size∧l.length≤cap∧cap≤maxLen:=by
 rcases Own.form h with ⟨h,h'⟩|h
 ·exact .inl ⟨h,List.eq_nil_of_length_eq_zero h'⟩
 ·exact .inr h
theorem OwB.len {A:Option Addr} {n cap:Nat} (h:OwB w base (.slice A n cap) l):n=l.length:=by
 rcases h.form with ⟨h,h'⟩|⟨g',c',h,_⟩
 ·cases h;subst h';rfl
 ·cases h;rfl
theorem OwB.cell {g n cap:Nat} (h:OwB w base (.slice (some ⟨g,0,none⟩) n cap) l) {j:Nat} (hj:j<l.length):w.cell? ⟨g,j,none⟩=some (.int .u8 (l[j].toNat:Int)):=by
 obtain rfl:=h.len;exact Own.cells h j _ (mD l j hj)
theorem OwB.frozen {g n cap:Nat} (h:OwB w base (.slice (some ⟨g,0,none⟩) n cap) l) {j:Nat} (hj:j<l.length):w.frozen? ⟨g,j,none⟩=false:=by
 obtain rfl:=h.len;exact Own.frozen h (by rw [yO];exact hj)
theorem OwB.set {g n cap:Nat} (h:OwB w base (.slice (some ⟨g,0,none⟩) n cap) l) (j:Nat) (x:UInt8):OwB (w.setCell ⟨g,j,none⟩ (.int .u8 (x.toNat:Int))) base (.slice (some ⟨g,0,none⟩) n cap) (l.set j x):=by
 obtain rfl:=h.len
 have:=Own.set h j (.int .u8 (x.toNat:Int))
 unfold OwB;rw [List.length_set,g7];exact this
theorem OwB.blk {g n:Nat} (h:OwB w base (.slice (some ⟨g,0,none⟩) n n) l):OBlk w g 5 (bvs l):=by
 obtain rfl:=h.len;rcases h.2 with ⟨h,_⟩|⟨g',cap',cs,hv,hb,hg,h1,h2,h3,h4⟩
 ·cases h
 ·injection hv with hA _ hc;injection hA with hA;injection hA with hA;subst hA;subst hc;rw [List.take_of_length_le (by omega)] at h4;rw [←h4];exact hg
theorem OBlk.owB {g:Nat} (h:OBlk w g 5 (bvs m)) (hb:base≤g) (hm:m.length≤maxLen) {n:Nat} (hn:n≤m.length):OwB w base (.slice (some ⟨g,0,none⟩) n m.length) (m.take n):=by
 have e:(m.take n).length=n:=by simp;omega
 refine ⟨by simp [yO],.inr ⟨g,m.length,bvs m,by rw [e],hb,h,by rw [e];exact hn,hm,by simp [yO],?_⟩⟩;rw [cY,e,Nat.mul_one]
theorem OBlk.owB' {g:Nat} (h:OBlk w g 5 (bvs m)) (hb:base≤g) (hm:m.length≤maxLen):OwB w base (.slice (some ⟨g,0,none⟩) m.length m.length) m:=by
 have:=h.owB hb hm (Nat.le_refl _)
 rwa [List.take_length] at this
theorem OwB.ne_blk {g:Nat} {T:TypeId} {cs:List Value} (h:OwB w base v l) (hg:OBlk w g T cs) (hT:5≠T):some g≠v.ownBlock:=by
 intro e;rcases h.2 with ⟨rfl,_⟩|⟨g',cap',cs',rfl,_,hg',_⟩
 ·simp [Value.ownBlock] at e
 ·simp [Value.ownBlock] at e;subst e;exact hg'.ne hg hT rfl
theorem OwB.apart {w0 w:World} {b b':Nat} {v v':Value} {l l':List UInt8} (h:OwB w0 b v l) (h':OwB w b' v' l') (hb:w0.heap.size≤b'):∀g,v.ownBlock=some g→some g≠v'.ownBlock:=by
 intro g hg he;have h1:=(h.lt g hg).2;have h2:=(h'.lt g he.symm).1;omega
theorem OBlk.rdB {g n:Nat} (h:OBlk w g 5 (bvs m)) (hn:m.length=n) (hm:n≤140737488355328):RdB w (.slice (some ⟨g,0,none⟩) n n) m:=by
 subst hn;exact (h.owB' (base:=0) (Nat.zero_le _) (by simp only [maxLen];omega)).rd
end OwB
theorem b8:(Tryz.prog.info? 5).map (fun i=>(i.zero,i.size,i.bytes))=some (some (.int .u8 0),1,1):=by kernel_rfl
theorem zAZ:(Tryz.prog.info? 5).map (·.size)=some 1:=by kernel_rfl
section laws
variable {w:World} {ops:Array Oper} {rest:List Oper} {o:Oper} {a:Act} {Q:Exit→Act→World→Prop}
theorem bQ (hg:o.guard=none) (l c:Operand) (hop:o.op=Op.makeSlice 41 l c)
 (L:Int) (n:Nat) (hl:a.eval l= .int .i64 L) (hc:a.eval c= .int .i64 L) (hL:L=(n:Int)) (hn:n≤281474976710656)
 (hK:∀w',OBlk w' w.heap.size 5 (bvs (List.replicate n 0))→Below w.heap.size w w'→w'.heap.size=w.heap.size+1→wpList Tryz.prog ops Q rest (a.put o.dst (.slice (some ⟨w.heap.size,0,none⟩) n n)) w'):
 wpList Tryz.prog ops Q (o::rest) a w:=by
 obtain ⟨i,hi,hz0,hz1,hz2⟩:=info_parts b8;refine wpList_plain hg fun K hK'=> ?_;have hr:=run_make (P:=Tryz.prog) w 41 5 i _ Tryz.underlying41 hi hz0 .i64 .i64 n n (by omega) (by omega) (by rw [hz2];omega) (by omega);subst hL;unfold Oper.wp;simp [execOp,hop,hl,hc,hr,Result.andThen];refine hK' _ _ (hK _ ?_ ((Below.refl _ _).alloc (Nat.le_refl _) _) (by simp));have e:=toList_madeCells_one (.int .u8 0) n
 have:=OBlk.new w 5 (madeCells #[.int .u8 0] n)
 rw [e,←jZ] at this
 simpa [Value.cells,hz1] using this
theorem yG (hgd:o.guard=none) (s x:Operand)
 (ho:o.op= .call {callee:= .builtin .append,args:= #[s,x],argTypes:= #[41,41]})
 (base:Nat) (v:Value) (l:List UInt8) (hs:a.eval s=v) (hown:OwB w base v l)
 (vx:Value) (m:List UInt8) (hx:a.eval x=vx) (hr:RdB w vx m) (hsm:l.length+m.length≤140737488355328) (hbase:base≤w.heap.size)
 (h:∀v' w',OwB w' base v' (l++m)→w.grownBy w' v.ownBlock→(v'.ownBlock=v.ownBlock∨v'.ownBlock=some w.heap.size)→wpList Tryz.prog ops Q rest (a.put o.dst v') w'):
 wpList Tryz.prog ops Q (o::rest) a w:=by
 obtain ⟨i,hi,hz0,hz1,hz2⟩:=info_parts b8;refine gA hgd s x _ _ ho base 5 i _ 1 1 Tryz.underlying41 hi hz0 hz1 hz2 rfl v l.length (bvs l) hs hown vx m.length (bvs m) hx (Rd.src w Tryz.underlying41 (by omega) hr.rd (dL m)) (by omega) hsm hbase ?_;intro v' w' h1 h2 h3;refine h v' w' ?_ h2 h3;unfold OwB;rw [List.length_append,gF];exact h1
theorem jO (hgd:o.guard=none) (s x:Operand)
 (ho:o.op= .call {callee:= .builtin .append,args:= #[s,x],argTypes:= #[41,41]})
 (base:Nat) (v:Value) (l:List UInt8) (hs:a.eval s=v) (hown:OwB w base v l)
 (y:UInt8) (u:Value) (hu:u= .int .u8 (y.toNat:Int)) (T:TypeId) (hx:a.eval x= .slice (some ⟨w.heap.size,0,none⟩) 1 1) (hsm:l.length+1≤140737488355328) (hbase:base≤w.heap.size)
 (h:∀v' w',OwB w' base v' (l++ [y])→w.grownBy w' v.ownBlock→(v'.ownBlock=v.ownBlock∨(v'.ownBlock=some (w.heap.size+1)))→wpList Tryz.prog ops Q rest (a.put o.dst v') w'):
 wpList Tryz.prog ops Q (o::rest) a (w.alloc (.cells #[u] T)):=by
 subst hu;refine yG hgd s x ho base v l hs (hown.alloc _) (.slice (some ⟨w.heap.size,0,none⟩) 1 1) [y] hx (RdB.of_rd (n:=1) ?_) hsm (by simp;omega) ?_
 ·simpa [bvs,bv] using Rd.one w (.int .u8 (y.toNat:Int)) T
 ·intro v' w' h1 h2 h3;refine h v' w' h1 ⟨h2.os,h2.tape,h2.output,?_,fun k hk hne=>(h2.block k (by simp;omega) hne).trans (Below.heap_alloc _ _ _ hk)⟩ (by simpa using h3)
  have:=h2.size
  simp at this;omega
theorem yM {v:Value} {l:List UInt8} (h:RdB w v l):(convert 41 9 v).run Tryz.prog w= .ok (.string ⟨l.toArray⟩) w:=by
 obtain ⟨A,c,rfl,h1,h2,h3⟩:=h
 cases A with
 |none=>
  have:l= []:=by
   cases l with
   |nil=>rfl
   |cons x r=>obtain ⟨ad,h,_⟩:=h3 0 (by simp);cases h
  subst this;rw [run_convert_bytes_string w _ _ 5 none _ c Tryz.underlying41 Tryz.underlying5 Tryz.underlying9];rfl
 |some ad=>
  refine run_convert_bytes_back w _ _ 5 ad c l Tryz.underlying41 Tryz.underlying5 Tryz.underlying9 fun j hj=> ?_;obtain ⟨ad',he,hc⟩:=h3 j hj;injection he with he;subst he;exact hc
theorem mO (w:World) (s:ByteArray) (hs:s.size≤maxLen):∃cap w',(convert 9 41 (.string s)).run Tryz.prog w= .ok (.slice (some ⟨w.heap.size,0,none⟩) s.size cap) w'∧
 OwB w' w.heap.size (.slice (some ⟨w.heap.size,0,none⟩) s.size cap) s.data.toList∧Below w.heap.size w w'∧w'.heap.size=w.heap.size+1:=by
 have hr:=run_bytes_of_string (P:=Tryz.prog) w 9 41 5 s Tryz.underlying9 Tryz.underlying41 Tryz.underlying5;have hge:=grownCap_ge w s.size 0 5;have hle:=grownCap_le_maxLen w s.size 0 5 hs;generalize grownCap w s.size 0 5=cap at*;obtain ⟨⟨l⟩⟩:=s
 change l.length≤cap at hge
 have e:(bytesRow ⟨⟨l⟩⟩ cap).toList=bvs l++List.replicate (cap-l.length) (.int .u8 0):=by
  simp [bytesRow,bvs];rfl
 have hcs:(bytesRow ⟨⟨l⟩⟩ cap).toList.length=cap:=by
  rw [e];simp [yO];omega
 refine ⟨_,_,hr,⟨by simp [yO],.inr ⟨w.heap.size,cap,(bytesRow ⟨⟨l⟩⟩ cap).toList,rfl,Nat.le_refl _,⟨((bytesRow ⟨⟨l⟩⟩ cap).size,(bytesRow ⟨⟨l⟩⟩ cap).size+1),?_,?_⟩,hge,hle,by simpa using hcs,?_⟩⟩,((Below.refl _ _).drew).alloc (Nat.le_refl _) _,by simp⟩
 ·exact (heap_alloc_new w.drew _).trans (by simp)
 ·intro j hj;rw [Array.length_toList] at hj;simp only;omega
 ·rw [e,Nat.mul_one]
  show List.take l.length _=bvs l
  rw [show l.length=(bvs l).length by rw [yO]];exact List.take_left
theorem dG (hgd:o.guard=none) (d s:Operand)
 (ho:o.op= .call {callee:= .builtin .copy,args:= #[d,s],argTypes:= #[41,41]})
 (dA:Option Addr) (dLen dCap g off:Nat) (hd':a.eval d= .slice dA dLen dCap) (cs:List UInt8) (hg:OBlk w g 5 (bvs cs)) (hd:0<dLen→dA=some ⟨g,off,none⟩) (hfit:off+dLen≤cs.length)
 (vx:Value) (m:List UInt8) (hx:a.eval s=vx) (hr:RdB w vx m)
 (h:∀w',OBlk w' g 5 (bvs (splice cs off (m.take (min m.length dLen))))→w.grownBy w' (some g)→wpList Tryz.prog ops Q rest (a.put o.dst (goInt (min m.length dLen:Nat))) w'):wpList Tryz.prog ops Q (o::rest) a w:=by
 refine zGZ hgd d s _ _ ho 5 Tryz.underlying41 zAZ dA dLen dCap g off hd' (bvs cs) 5 hg hd (by rw [yO];exact hfit) vx m.length (bvs m) hx hr.rd (dL m) ?_;intro w' h1 h2;refine h w' ?_ h2;rw [sP,cY];exact h1
theorem xF {K:Act→World→Prop} {E:Prop} (hgd:o.guard=none) (d s:Operand)
 (ho:o.op= .call {callee:= .builtin .copy,args:= #[d,s],argTypes:= #[41,41]})
 (dA:Option Addr) (dLen dCap g off:Nat) (hd':a.eval d= .slice dA dLen dCap) (cs:List UInt8) (hg:OBlk w g 5 (bvs cs)) (hd:0<dLen→dA=some ⟨g,off,none⟩) (hfit:off+dLen≤cs.length)
 (vx:Value) (m:List UInt8) (hx:a.eval s=vx) (hr:RdB w vx m)
 (h:∀w',OBlk w' g 5 (bvs (splice cs off (m.take (min m.length dLen))))→w.grownBy w' (some g)→K (a.put o.dst (goInt (min m.length dLen:Nat))) w'):
 if Region.wanted o (yielded ops a.tmps)=true then Oper.wp Tryz.prog o a w K Q else E:=by
 have hw:Region.wanted o (yielded ops a.tmps)=true:=by simp [Region.wanted,hgd]
 rw [if_pos hw];have hrun:=d9 (P:=Tryz.prog) w _ 41 o.type 5 Tryz.underlying41 zAZ dA dLen dCap g off (bvs cs) 5 hg hd (by rw [yO];exact hfit) vx m.length (bvs m) hr.rd (dL m);have hw':=h _ (by rw [sP,cY];exact OBlk.setCells ((bvs m).take (min m.length dLen)) off _ _ hg (by rw [yO];simp [yO];omega)) (yX _ _ _ _);unfold Oper.wp;simp [execOp,ho,resolve,invoke,builtin,hd',hx,hrun,Result.andThen,Oper.upon];exact hw'
end laws
def zI (n:Nat):Nat→List UInt8
 |0=> []
 |k+1=>zI (n/256) k++ [UInt8.ofNat n]
theorem zE (n k:Nat):(zI n k).length=k:=by
 induction k generalizing n with
 |zero=>rfl
 |succ k ih=>simp [zI,ih]
theorem f8 (n:Nat):((UInt8.ofNat n).toNat:Int)=(n:Int)%256:=by simp
theorem wK (n:Nat) (hn:n<18446744073709551616) (wd:Nat) (h1:1≤wd) (h8:wd≤8) (w:World):
 Calls Tryz.prog 141 #[.int .u64 n,.int .i64 wd] w fun e w'=>e= .returned (.slice (some ⟨w.heap.size,0,none⟩) wd wd)∧OBlk w' w.heap.size 5 (bvs (zI n wd))∧Below w.heap.size w w'∧w'.heap.size=w.heap.size+1:=by
 go_enter Tryz.func141,Tryz.ntmps141;go_wp2_with (first|(at_make;refine bQ rfl (.tmp 13) (.tmp 13) rfl _ wd rfl rfl rfl (by omega) ?_;intro w1 hb1 hw1 hs1))
 go_loopw [0,6] (fun m i wr=>∃(k m':Nat) (t:List UInt8),i= .int .i64 ((k:Int)-1)∧m= .int .u64 m'∧k≤wd∧m'<18446744073709551616∧zI n wd=zI m' k++t∧OBlk wr w.heap.size 5 (bvs (List.replicate k 0++t))∧Below w.heap.size w wr∧wr.heap.size=w.heap.size+1)
  (fun _ i _=>(intOf i+1).toNat)
 case atStart=>exact ⟨wd,n,[],rfl,rfl,Nat.le_refl _,hn,by simp,by simpa using hb1,hw1,hs1⟩
 case round=>
  obtain ⟨k,m',t,rfl,rfl,hk,hm',ht,hb,hw,hs⟩:=hrel;rcases Nat.eq_zero_or_pos k with rfl|hpos
  ·go_wp2
   go_ret;simp only [zI,List.nil_append,List.replicate_zero] at ht hb;rw [←ht] at hb;exact ⟨rfl,hb,hw,hs⟩
  ·obtain ⟨k',rfl⟩:∃k',k=k'+1:=⟨k-1,by omega⟩
   have e1:((k'+1:Nat):Int)-1=(k':Int):=by omega
   rw [e1]
   have hc:wr.cell? ⟨w.heap.size,k',none⟩=some (.int .u8 0):=by
    refine hb.cell' ?_;rw [gF,jZ,List.getElem?_append_left (by simp)]
    simp
   have hf:wr.frozen? ⟨w.heap.size,k',none⟩=false:=hb.frozen (by simp [yO];omega)
   have b1:(0:Int)≤(k':Int):=by omega
   have b2:(k':Int)<(wd:Int):=by omega
   go_wp2
   go_roundw
   case rel=>
    refine ⟨k',m'/256,UInt8.ofNat m'::t,rfl,by go_num,by omega,by omega,by rw [ht];simp [zI],?_,hw.setCell (Nat.le_refl _) _,by simpa using hs⟩
    have:=hb.set k' (.int .u8 ((m':Int)%256))
    rw [←f8,←g7] at this;rw [←f8]
    have e:(List.replicate (k'+1) (0:UInt8)++t).set k' (UInt8.ofNat m')=List.replicate k' 0++UInt8.ofNat m'::t:=by
     rw [List.replicate_succ',List.append_assoc,List.set_append_right _ _ (by simp)]
     simp
    rw [←e];exact this
   case measure=>simp [intOf]
theorem rF (n:Nat) (hn:n<18446744073709551616) (w:World):
 Calls Tryz.prog 141 #[.int .u64 n,.int .i64 4] w fun e w'=>e= .returned (.slice (some ⟨w.heap.size,0,none⟩) 4 4)∧OBlk w' w.heap.size 5 (bvs (zI n 4))∧Below w.heap.size w w'∧w'.heap.size=w.heap.size+1:=
 wK n hn 4 (by omega) (by omega) w
def qU (l:List UInt8):Nat:=l.foldl (fun n x=>n*256+x.toNat) 0
theorem nU (l:List UInt8) (x:UInt8):qU (l++ [x])=qU l*256+x.toNat:=by simp [qU]
theorem a9 (l:List UInt8) (n:Nat):l.foldl (fun n x=>n*256+x.toNat) n<(n+1)*256^l.length:=by
 induction l generalizing n with
 |nil=>simp
 |cons x l ih=>
  have hx:=x.toNat_lt
  have:=ih (n*256+x.toNat)
  simp only [List.foldl_cons,List.length_cons];refine Nat.lt_of_lt_of_le this ?_;rw [Nat.pow_succ,Nat.mul_comm (256^l.length),←Nat.mul_assoc];exact Nat.mul_le_mul_right _ (by omega)
theorem mG (l:List UInt8):qU l<256^l.length:=by
 have:=a9 l 0
 simpa [qU] using this
theorem zG6 (n x:Nat) (hn:n<72057594037927936) (hx:x<256):bits .or .u64 ((n:Int)*256) (x:Int)=((n*256+x:Nat):Int):=by
 have:=u64_or_nat (n*256) x (by omega) (by omega)
 rw [nat_join 8 (n*256) x (by omega) (by omega)] at this;exact this
theorem iT (l:List UInt8) (h:l.length≤7):qU l<72057594037927936:=by
 have:=mG l
 have h2:256^l.length≤256^7:=Nat.pow_le_pow_right (by omega) h
 have h3:256^7=72057594037927936:=by decide
 omega
theorem d8 (v:Value) (l:List UInt8) (at_ wd:Nat) (h1:1≤wd) (h8:wd≤8) (ha:at_+wd≤l.length) (w:World) (hv:RdB w v l):
 Calls Tryz.prog 145 #[v,.int .i64 at_,.int .i64 wd] w fun e w'=>e= .returned (.tuple #[.int .u64 (qU ((l.drop at_).take wd):Nat),.int .i64 0])∧w=w':=by
 obtain ⟨A,c,rfl,hm⟩:=hv.form
 have hc:l.length≤c:=by
  obtain ⟨_,_,hv',h,_⟩:=hv;injection hv' with _ _ hc;subst hc;exact h
 have hcut:=hv.cut (lo:=at_) (hi:=at_+wd) (by omega) ha;rw [show at_+wd-at_=wd by omega] at hcut
 have hlen:((l.take (at_+wd)).drop at_).length=wd:=by simp;omega
 have heq:(l.take (at_+wd)).drop at_=(l.drop at_).take wd:=by rw [List.drop_take];congr 1;omega
 rw [heq] at hcut hlen;obtain ⟨ad,rfl,hx⟩:=hv.at_ (j:=at_) (by omega);clear hx heq hv;rw [if_neg (by omega)] at hcut;generalize (l.drop at_).take wd=m at*
 have g1:(1:Int)≤(wd:Int):=by omega
 have g2:(wd:Int)≤8:=by omega
 have g3:(0:Int)≤(at_:Int):=by omega
 have g4:(at_:Int)+(wd:Int)≤(l.length:Int):=by omega
 have g5:(l.length:Int)≤(c:Int):=by omega
 have g6:(l.length:Int)≤9223372036854775807:=by omega
 have HL:=Lib.hid hlen;clear hlen;go_enter Tryz.func145,Tryz.ntmps145
 go_wp2
 go_loop [8,42] (fun n i=>∃j:Nat,i= .int .i64 (j:Int)∧j≤wd∧n= .int .u64 (qU (m.take j):Nat)) (fun _ i=>wd-(intOf i).toNat)
 case atStart=>exact ⟨0,rfl,Nat.zero_le _,rfl⟩
 case round=>
  obtain ⟨j,rfl,hj,rfl⟩:=hrel
  by_cases hlt:j<wd
  ·have hjm:j<m.length:=by rw [HL.out];exact hlt
   obtain ⟨ad',hA,hcell⟩:=hcut.at_ hjm;simp only [Option.map_some,Option.some.injEq] at hA;subst hA;have hb:=iT (m.take j) (by simp;omega)
   have hs:qU (m.take (j+1))=qU (m.take j)*256+m[j].toNat:=by
    rw [List.take_succ_eq_append_getElem hjm,nU]
   have HS:=Lib.hid hs;clear hs;have hxb:m[j].toNat<256:=m[j].toNat_lt;generalize m[j].toNat=x at*;generalize qU (m.take j)=n at*;have hor:=zG6 n x hb hxb;rw [←HS.out] at hor;generalize hn':qU (m.take (j+1))=n' at*;have HN:=Lib.hid hn';clear hn'
   go_wp2
   go_round
   case rel=>exact ⟨j+1,by go_num,by omega,by rw [HN.out]⟩
   case measure=>simp [intOf];omega
  ·obtain rfl:j=wd:=by omega
   rw [List.take_of_length_le (by rw [HL.out];exact Nat.le_refl _)]
   go_wp2
   go_ret2;exact ⟨rfl,rfl⟩
structure PC where
 key:List UInt8
 kind:Int
 val:List UInt8
 page:Int
 count:Int
instance :Inhabited PC:=⟨⟨[],0,[],0,0⟩⟩
def z8 (c:PC):Prop:=2≤c.page∧c.page<65536
def yC (c:PC):Prop:=c.page=0∧c.count=0
instance (c:PC):Decidable (z8 c):=by unfold z8;infer_instance
instance (c:PC):Decidable (yC c):=by unfold yC;infer_instance
def zQ (kind:Int) (P:Nat) (c:PC):Bool:=
 if P/8<c.key.length∨(kind=2∧c.key.length=0)∨(c.kind≠1∧0<c.val.length) then false
 else if kind=3 then decide (c.kind=3∧z8 c∧1≤c.count∧c.count≤1073741824)
 else if c.kind=1 then decide (yC c∧c.val.length≤P/16*3)
 else if c.kind=2 then decide (z8 c∧(P/16*3:Nat)<c.count∧c.count≤65536)
 else if c.kind=4 then decide (yC c∨(z8 c∧1≤c.count∧c.count≤1073741824))
 else false
def z9 (c:PC):Nat:=if c.kind=1 then 5+c.key.length+c.val.length else 11+c.key.length
def zW:List PC→Nat
 | []=>8
 |c::r=>zW r+(2+z9 c)
def zM:List PC→Nat
 | []=>0
 |c::r=>z9 c+zM r
theorem yS (l:List PC):zW l=8+2*l.length+zM l:=by
 induction l with
 |nil=>rfl
 |cons c r ih=>simp only [zW,zM,List.length_cons,ih];omega
theorem x6 (a b:List PC):zM (a++b)=zM a+zM b:=by
 induction a with
 |nil=>simp [zM]
 |cons c r ih=>simp only [List.cons_append,zM,ih];omega
theorem mT (a b:List PC):zW (a++b)=zW a+(zW b-8):=by
 rw [yS,yS,yS,x6,List.length_append];omega
theorem dK (c:PC):5≤z9 c:=by unfold z9;split<;>omega
def bI (c:PC):List UInt8:=if c.kind=1 then zI c.val.length 2++c.val else zI c.page.toNat 4++zI c.count.toNat 4
def jR (c:PC):List UInt8:=UInt8.ofNat c.kind.toNat::(zI c.key.length 2++(c.key++bI c))
theorem lC (c:PC):(bI c).length=if c.kind=1 then 2+c.val.length else 8:=by
 unfold bI
 split
 ·rw [List.length_append,zE]
 ·rw [List.length_append,zE,zE]
theorem kH (c:PC):(jR c).length=z9 c:=by
 unfold jR z9;rw [List.length_cons,List.length_append,List.length_append,zE,lC]
 split<;>omega
def yW:List PC→List UInt8
 | []=> []
 |c::r=>jR c++yW r
theorem xQ (l:List PC):(yW l).length=zM l:=by
 induction l with
 |nil=>rfl
 |cons c r ih=>simp [yW,zM,kH,ih]
theorem k7 (a b:List PC):yW (a++b)=yW a++yW b:=by
 induction a with
 |nil=>rfl
 |cons c r ih=>simp [yW,ih]
def yN:Nat→List PC→List UInt8
 |_,[]=> []
 |at_,c::r=>zI at_ 2++yN (at_+z9 c) r
theorem x5 (at_:Nat) (l:List PC):(yN at_ l).length=2*l.length:=by
 induction l generalizing at_ with
 |nil=>rfl
 |cons c r ih=>simp [yN,zE,ih];omega
theorem bH (at_:Nat) (a b:List PC):yN at_ (a++b)=yN at_ a++yN (at_+zM a) b:=by
 induction a generalizing at_ with
 |nil=>simp [yN,zM]
 |cons c r ih=>simp only [List.cons_append,yN,ih,zM,List.append_assoc];rw [Nat.add_assoc]
def atF (l:List PC) (P:Nat):Nat:=P-4-zM l
def kC (kind:Int) (n:Nat):List UInt8:=UInt8.ofNat kind.toNat::1::zI n 2
def kO (kind:Int) (l:List PC) (P:Nat):List UInt8:=
 kC kind l.length++(yN (atF l P) l++(List.replicate (P-4-zM l-4-2*l.length) 0++yW l))
def yV (kind:Int) (l:List PC) (P:Nat):List UInt8:=kO kind l P++zI (jQ (kO kind l P)) 4
theorem jD (kind:Int) (n:Nat):(kC kind n).length=4:=by simp [kC,zE]
theorem bG {kind:Int} {l:List PC} {P:Nat} (h:zW l≤P):(kO kind l P).length=P-4:=by
 rw [yS] at h;unfold kO;simp only [List.length_append,jD,x5,List.length_replicate,xQ];omega
theorem kF {kind:Int} {l:List PC} {P:Nat} (h:zW l≤P):(yV kind l P).length=P:=by
 have:=yS l
 unfold yV;rw [List.length_append,bG h,zE];omega
def qW (p:Option (List UInt8)) (k:List UInt8):Bool:=match p with
 |none=>true
 |some q=>decide (yD q k<0)
def yT (kind:Int) (P:Nat):Option (List UInt8)→List PC→Int
 |_,[]=>0
 |p,c::r=>if zQ kind P c=false then 62 else if qW p c.key=false then 63 else yT kind P (some c.key) r
def zO (kind:Int):Bool:=decide (kind=2∨kind=3)
def kK (kind:Int) (l:List PC) (P:Nat):Int:=if yT kind P none l≠0 then yT kind P none l else if P<zW l then 61 else 0
def xH (l:List PC) (i:Nat):Option (List UInt8):=if i=0 then none else some (l.getD (i-1) default).key
theorem dC {kind:Int} {P:Nat} {l:List PC} {i:Nat} (hi:i<l.length):
 yT kind P (xH l i) (l.drop i)=if zQ kind P l[i]=false then 62 else if qW (xH l i) l[i].key=false then 63 else yT kind P (xH l (i+1)) (l.drop (i+1)):=by
 rw [List.drop_eq_getElem_cons hi,yT]
 have e:xH l (i+1)=some l[i].key:=by
  unfold xH;rw [if_neg (by omega)];simp [List.getD,hi]
 rw [e]
theorem qE {kind:Int} {P:Nat}:∀{l:List PC} {p:Option (List UInt8)},yT kind P p l=0→∀c∈l,zQ kind P c=true
 | [],_,_,c,hc=>by cases hc
 |c::r,p,h,d,hd=>by
  rw [yT] at h
  split at h
  ·cases h
  ·rename_i hm
   split at h
   ·cases h
   ·rcases List.mem_cons.1 hd with rfl|hd
    ·simpa using hm
    ·exact qE h d hd
structure OkC (P:Nat) (c:PC):Prop where
 k0:c.key.length≤P/8
 kd:1≤c.kind∧c.kind≤4
 v0:c.kind=1→c.val.length≤P/16*3∧c.page=0∧c.count=0
 v1:c.kind≠1→c.val= []∧0≤c.page∧c.page<65536∧0≤c.count∧c.count≤1073741824
theorem xY {kind:Int} {P:Nat} {c:PC} (h:zQ kind P c=true):OkC P c:=by
 unfold zQ at h
 split at h
 ·cases h
 ·rename_i hn
  have h1:c.key.length≤P/8:=by omega
  have h2:c.kind≠1→c.val= []:=fun hk=>List.eq_nil_of_length_eq_zero (by omega)
  split at h
  ·have h:=of_decide_eq_true h;unfold z8 at h;exact ⟨h1,by omega,fun e=>by omega,fun e=>⟨h2 e,by omega,by omega,by omega,by omega⟩⟩
  ·split at h
   ·have h:=of_decide_eq_true h;unfold yC at h;exact ⟨h1,by omega,fun _=>⟨h.2,h.1.1,h.1.2⟩,fun e=>absurd ‹c.kind=1› e⟩
   ·split at h
    ·have h:=of_decide_eq_true h;unfold z8 at h;exact ⟨h1,by omega,fun e=>by omega,fun e=>⟨h2 e,by omega,by omega,by omega,by omega⟩⟩
    ·split at h
     ·have h:=of_decide_eq_true h;unfold z8 yC at h;refine ⟨h1,by omega,fun e=>by omega,fun e=>⟨h2 e,?_⟩⟩;rcases h with h|h<;>omega
     ·cases h
theorem cV {P:Nat} {c:PC} (h:OkC P c) (hP:P≤65536):z9 c≤65536:=by
 have:=h.k0
 unfold z9
 split
 ·have:=(h.v0 (by assumption)).1;omega
 ·omega
theorem zEJ {P:Nat} {l:List PC} (h:∀c∈l,OkC P c) (hP:P≤65536):zM l≤65536*l.length:=by
 induction l with
 |nil=>simp [zM]
 |cons c r ih=>
  have h1:=cV (h c (by simp)) hP;have h2:=ih fun d hd=>h d (by simp [hd]);simp only [zM,List.length_cons];omega
theorem vS {kind:Int} {l:List PC} {P:Nat}:kK kind l P=0↔yT kind P none l=0∧zW l≤P:=by
 unfold kK
 split
 ·rename_i h;exact ⟨fun e=>absurd e h,fun e=>absurd e.1 h⟩
 ·rename_i h
  split
  ·exact ⟨fun e=>by omega,fun e=>by omega⟩
  ·exact ⟨fun _=>⟨by simpa using h,by omega⟩,fun _=>rfl⟩
def zL (b:List UInt8) (at_ w:Nat):Nat:=qU ((b.drop at_).take w)
def vM (b:List UInt8) (at_ end_:Nat):Option (PC×Nat):=
 if end_<at_+3 then none
 else
  if end_<at_+3+(zL b (at_+1) 2)+2 then none
  else
   if ((b.getD at_ 0).toNat:Int)≠1 then
    if end_<at_+3+(zL b (at_+1) 2)+8 then none
    else some (⟨(b.drop (at_+3)).take (zL b (at_+1) 2),(b.getD at_ 0).toNat,[],(zL b (at_+3+(zL b (at_+1) 2)) 4:Nat),(zL b (at_+3+(zL b (at_+1) 2)+4) 4:Nat)⟩,at_+3+(zL b (at_+1) 2)+8)
   else
    if end_<at_+3+(zL b (at_+1) 2)+2+zL b (at_+3+(zL b (at_+1) 2)) 2 then none
    else some (⟨(b.drop (at_+3)).take (zL b (at_+1) 2),(b.getD at_ 0).toNat,(b.drop (at_+3+(zL b (at_+1) 2)+2)).take (zL b (at_+3+(zL b (at_+1) 2)) 2),0,0⟩,at_+3+(zL b (at_+1) 2)+2+zL b (at_+3+(zL b (at_+1) 2)) 2)
def k9 (b:List UInt8) (end_:Nat):Nat→Nat→Option (List PC)
 |_,0=>some []
 |at_,n+1=>match vM b at_ end_ with
  |none=>none
  |some (c,tz)=>(k9 b end_ tz n).map (c:: ·)
def fP (b:List UInt8) (n end_:Nat):Nat:=if 0<n then zL b 4 2 else end_
def cN (b:List UInt8):Option (List PC):=
 if b.length-4<4+2*zL b 2 2 then none else k9 b (b.length-4) (fP b (zL b 2 2) (b.length-4)) (zL b 2 2)
def vD (b:List UInt8):Int:=((b.getD 0 0).toNat:Int)
theorem oF (n k:Nat) (h:n<256^k):qU (zI n k)=n:=by
 induction k generalizing n with
 |zero=>simp [zI,qU];simp at h;omega
 |succ k ih=>
  rw [Nat.pow_succ] at h;have hd:n/256<256^k:=Nat.div_lt_of_lt_mul (by rw [Nat.mul_comm];exact h);rw [zI,nU,ih _ hd,UInt8.toNat_ofNat'];omega
theorem jF {b pre rest:List UInt8} {n w at_:Nat} (hb:b=pre++(zI n w++rest)) (ha:pre.length=at_) (hn:n<256^w):zL b at_ w=n:=by
 subst hb ha;unfold zL;rw [List.drop_left,List.take_left' (zE n w),oF n w hn]
theorem bR {b pre x rest:List UInt8} {n at_:Nat} (hb:b=pre++(x++rest)) (ha:pre.length=at_) (hn:x.length=n):(b.drop at_).take n=x:=by
 subst hb ha;rw [List.drop_left,List.take_left' hn]
theorem wG {P:Nat} {b pre rest:List UInt8} {c:PC} {at_ end_:Nat} (hc:OkC P c) (hP:P≤65536) (hb:b=pre++(jR c++rest)) (ha:pre.length=at_) (he:at_+z9 c≤end_):vM b at_ end_=some (c,at_+z9 c):=by
 obtain ⟨key,kind,val,page,count⟩:=c;have hk0:=hc.k0;have hkd:=hc.kd;have hv0:=hc.v0;have hv1:=hc.v1;simp only at hk0 hkd hv0 hv1;have hl5:=dK ⟨key,kind,val,page,count⟩
 have e0:b.getD at_ 0=UInt8.ofNat kind.toNat:=by
  subst hb ha;simp [jR,List.getD]
 have ek:(((b.getD at_ 0).toNat:Nat):Int)=kind:=by rw [e0,UInt8.toNat_ofNat'];omega
 have e1:zL b (at_+1) 2=key.length:=by
  refine jF (pre:=pre++ [UInt8.ofNat kind.toNat]) (rest:=(key++bI ⟨key,kind,val,page,count⟩)++rest) ?_ (by simp [ha]) (by omega);subst hb;simp [jR]
 have e2:(b.drop (at_+3)).take key.length=key:=by
  refine bR (pre:=pre++(UInt8.ofNat kind.toNat::zI key.length 2)) (rest:=bI ⟨key,kind,val,page,count⟩++rest) ?_ (by simp [ha,zE]) rfl;subst hb;simp [jR]
 have hpre:(pre++(UInt8.ofNat kind.toNat::(zI key.length 2++key))).length=at_+3+key.length:=by simp [ha,zE];omega
 unfold z9 at he hl5⊢;simp only at he hl5⊢;unfold vM;rw [e1,e2,ek]
 by_cases h1:kind=1
 ·obtain ⟨hv,hp0,hc0⟩:=hv0 h1;rw [if_pos h1] at he hl5⊢
  have e3:zL b (at_+3+key.length) 2=val.length:=by
   refine jF (rest:=val++rest) ?_ hpre (by omega);subst hb;simp [jR,bI,h1]
  have e4:(b.drop (at_+3+key.length+2)).take val.length=val:=by
   refine bR (pre:=pre++(UInt8.ofNat kind.toNat::(zI key.length 2++key))++zI val.length 2) (rest:=rest) ?_ (by rw [List.length_append,hpre,zE]) rfl;subst hb;simp [jR,bI,h1]
  rw [e3,e4,if_neg (by omega),if_neg (by omega),if_neg (by simp [h1]),if_neg (by omega),hp0,hc0];simp only [Option.some.injEq,Prod.mk.injEq,true_and];omega
 ·obtain ⟨hv,hp0,hp1,hc0,hc1⟩:=hv1 h1;rw [if_neg h1] at he hl5⊢
  have e3:zL b (at_+3+key.length) 4=page.toNat:=by
   refine jF (rest:=zI count.toNat 4++rest) ?_ hpre (by omega);subst hb;simp [jR,bI,h1]
  have e4:zL b (at_+3+key.length+4) 4=count.toNat:=by
   refine jF (pre:=pre++(UInt8.ofNat kind.toNat::(zI key.length 2++key))++zI page.toNat 4) (rest:=rest) ?_ (by rw [List.length_append,hpre,zE]) (by omega);subst hb;simp [jR,bI,h1]
  rw [e3,e4,if_neg (by omega),if_neg (by omega),if_pos h1,if_neg (by omega),hv,show ((page.toNat:Nat):Int)=page by omega,show ((count.toNat:Nat):Int)=count by omega];simp only [Option.some.injEq,Prod.mk.injEq,true_and];omega
theorem rX {P:Nat} {b rest:List UInt8} {end_:Nat} (hP:P≤65536):∀(l:List PC) (pre:List UInt8) (at_:Nat),(∀c∈l,OkC P c)→b=pre++(yW l++rest)→pre.length=at_→at_+zM l≤end_→k9 b end_ at_ l.length=some l
 | [],_,_,_,_,_,_=>rfl
 |c::r,pre,at_,hl,hb,ha,he=>by
  have e1:=wG (b:=b) (pre:=pre) (at_:=at_) (c:=c) (rest:=yW r++rest) (end_:=end_) (hl c (by simp)) hP (by rw [hb];simp [yW]) ha (by simp only [zM] at he;omega);have e2:=rX (b:=b) (end_:=end_) (rest:=rest) hP r (pre++jR c) (at_+z9 c) (fun d hd=>hl d (by simp [hd])) (by rw [hb];simp [yW]) (by simp [ha,kH]) (by simp only [zM] at he;omega);rw [List.length_cons,k9,e1]
  show (k9 b end_ (at_+z9 c) r.length).map (c:: ·)=_
  rw [e2];rfl
theorem uO {kind:Int} {l:List PC} {P:Nat} (hP:P≤65536) (hk:zO kind=true) (h:kK kind l P=0):cN (yV kind l P)=some l∧vD (yV kind l P)=kind:=by
 obtain ⟨h1,h2⟩:=vS.1 h;have hok:∀c∈l,OkC P c:=fun c hc=>xY (qE h1 c hc);have hs:=yS l;have hL:=kF (kind:=kind) h2;have hkd:kind=2∨kind=3:=of_decide_eq_true hk
 have hB:yV kind l P=(UInt8.ofNat kind.toNat::1::(zI l.length 2++(yN (atF l P) l++(List.replicate (P-4-zM l-4-2*l.length) 0++yW l))))++zI (jQ (kO kind l P)) 4:=by
  unfold yV
  congr 1
 constructor
 ·have e1:zL (yV kind l P) 2 2=l.length:=by
   refine jF (pre:= [UInt8.ofNat kind.toNat,1]) (rest:=(yN (atF l P) l++(List.replicate (P-4-zM l-4-2*l.length) 0++yW l))++zI (jQ (kO kind l P)) 4) ?_ rfl (by omega);rw [hB];try simp
  unfold cN;rw [e1,hL,if_neg (by omega)]
  have e2:l≠ []→fP (yV kind l P) l.length (P-4)=atF l P:=by
   intro hne
   cases l with
   |nil=>exact absurd rfl hne
   |cons c r=>
    unfold fP;rw [if_pos (by simp)];refine jF (pre:=kC kind (c::r).length) (rest:=yN (atF (c::r) P+z9 c) r++(List.replicate (P-4-zM (c::r)-4-2*(c::r).length) 0++yW (c::r))++zI (jQ (kO kind (c::r) P)) 4) ?_ (jD _ _) (by unfold atF;omega);rw [hB];try simp [kC,yN]
  by_cases hne:l= []
  ·subst hne;rfl
  ·rw [e2 hne];refine rX (P:=P) (rest:=zI (jQ (kO kind l P)) 4) hP l (kC kind l.length++(yN (atF l P) l++List.replicate (P-4-zM l-4-2*l.length) 0)) (atF l P) hok ?_ ?_ ?_
   ·rw [hB];try simp [kC]
   ·simp only [List.length_append,jD,x5,List.length_replicate];unfold atF;omega
   ·unfold atF;omega
 ·unfold vD;rw [hB];simp only [List.cons_append,List.getD_cons_zero,UInt8.toNat_ofNat'];omega
section append
variable {P:Program} (w:World)
theorem p6 (base:Nat) (t tx ty T:TypeId) (i:TypeInfo) (z:Value) (size bytes:Nat) (ht:P.underlying t=some (.slice T)) (hi:P.info? T=some i) (hz:i.zero=some z)
 (hsize:i.size=size) (hby:i.bytes=bytes) (hzs:z.cells.size=size)
 (v:Value) (n:Nat) (xs:List Value) (hown:Own w base T size v n xs)
 (vx:Value) (m:Nat) (news:List Value) (hs:Src P size tx vx m news w)
 (hbytes:(n+m)*bytes≤140737488355328) (hsm:n+m≤140737488355328) (hbase:base≤w.heap.size):
 ∃v' w',(Builtin.append_ #[t,tx] ty #[v,vx]).run P w= .ok v' w'∧Own w' base T size v' (n+m) (xs++news)∧w.grownBy w' v.ownBlock∧
  (v'.ownBlock=v.ownBlock∨v'.ownBlock=some w.heap.size)∧Own w' base T size v n xs:=by
 subst hsize
 subst hby
 have h63:n+m≤maxLen:=by simp only [maxLen];omega
 have hl:=hs.newsLen
 have hlen:(xs++news).length=(n+m)*i.size:=by rw [List.length_append,hown.1,hl,Nat.add_mul]
 have grown:∀(old:Nat),old<n+m→∀(row:Option Nat),
  Own (w.drew.alloc (.cells ((xs++news).toArray++Builtin.zeroCells z.cells (grownCap w (n+m) old T-(n+m))) T)) base T i.size
   (.slice (some ⟨w.heap.size,0,none⟩) (n+m) (grownCap w (n+m) old T)) (n+m) (xs++news)∧
  w.grownBy (w.drew.alloc (.cells ((xs++news).toArray++Builtin.zeroCells z.cells (grownCap w (n+m) old T-(n+m))) T)) row:=by
  intro old ho row;have hge:=grownCap_ge w (n+m) old T;have hcm:grownCap w (n+m) old T≤maxLen:=grownCap_le_maxLen w (n+m) old T h63;refine ⟨⟨hlen,.inr ⟨w.heap.size,_,_,rfl,hbase,OBlk.new w.drew T _,hge,hcm,?_,?_⟩⟩,⟨rfl,rfl,rfl,by simp,fun k hk _=>heap_alloc_old w.drew _ hk⟩⟩
  ·have hs:(Builtin.zeroCells z.cells (grownCap w (n+m) old T-(n+m))).toList.length=(grownCap w (n+m) old T-(n+m))*i.size:=by
    rw [Array.length_toList,size_zeroCells,hzs]
   rw [Array.toList_append,List.length_append,hs];simp only [hlen,←Nat.add_mul]
   congr 1
   omega
  ·simp only [Array.toList_append];rw [←hlen];exact List.take_left
 rcases hown.2 with ⟨rfl,rfl⟩|⟨g,cap,cs,rfl,hbg,hg,hnc,hcm,hcs,htake⟩
 ·have hx:xs= []:=List.eq_nil_of_length_eq_zero (by simpa using hown.1);subst hx
  by_cases hm0:m=0
  ·subst hm0;have hn:news= []:=List.eq_nil_of_length_eq_zero (by simpa using hl);subst hn;refine ⟨.slice none 0 0,w,?_,by simpa using hown,World.grownBy.refl w _,.inl rfl,hown⟩;rcases hs.kind with ⟨e',hk⟩|hk<;>simp [Builtin.append_,run_underlying ht,run_underlying hk,sizeOf,typeInfo,hi,hs.len,hs.cells]
  ·have hr:=run_append_grow_src (P:=P) w t tx ty T i z ht hi hz none 0 0 [] (by simp [Builtin.firstCells]) vx m news hs (by omega) (by omega) (by have hb:=hbytes;exact growslice_fits (by omega) hb);have hgr:=grown 0 (by omega) (Value.ownBlock (.slice none 0 0));exact ⟨_,_,hr,hgr.1,hgr.2,Or.inr rfl,(hown.drew).alloc _⟩
 ·by_cases hroom:n+m≤cap
  ·have hle:n*i.size+news.length≤cs.length:=by rw [hl,hcs,←Nat.add_mul];exact Nat.mul_le_mul_right _ hroom
   have hr:=run_append_room_src (P:=P) w t tx ty T i ht hi g 0 n cap vx m news hs hroom (fun j hj=>by rw [hg.cell];simp;omega) (fun j hj=>hg.frozen (by omega));rw [Nat.zero_add] at hr;refine ⟨_,_,hr,⟨hlen,.inr ⟨g,cap,_,rfl,hbg,OBlk.setCells news _ w cs hg hle,hroom,hcm,?_,?_⟩⟩,yX _ _ _ _,.inl rfl,?_⟩
   ·rw [length_splice _ _ _ hle,hcs]
   ·rw [Nat.add_mul,←hl,fX _ _ _ (by omega),htake]
   ·refine ⟨hown.1,.inr ⟨g,cap,_,rfl,hbg,OBlk.setCells news _ w cs hg hle,hnc,hcm,?_,?_⟩⟩
    ·rw [length_splice _ _ _ hle,hcs]
    ·rw [sE cs _ news (by omega) _ (Nat.le_refl _),htake]
  ·have holds:(Builtin.firstCells i.size n (.slice (some ⟨g,0,none⟩) n cap)).run P w.drew= .ok xs.toArray w.drew:=
    run_firstCells_some w.drew i.size n ⟨g,0,none⟩ n cap xs hown.1 (fun j u hj=>by rw [vH];simpa using hown.cells j u hj)
   have hr:=run_append_grow_src (P:=P) w t tx ty T i z ht hi hz (some ⟨g,0,none⟩) n cap xs holds vx m news hs (by omega) (by omega) (growslice_fits (by omega) hbytes);have hgr:=grown cap (by omega) (Value.ownBlock (.slice (some ⟨g,0,none⟩) n cap));exact ⟨_,_,hr,hgr.1,hgr.2,Or.inr rfl,(hown.drew).alloc _⟩
end append
section laws
variable {P:Program} {w:World} {ops:Array Oper} {rest:List Oper} {o:Oper} {a:Act} {Q:Exit→Act→World→Prop}
theorem f7 (hgd:o.guard=none) (s x:Operand) (t tx:TypeId)
 (ho:o.op= .call {callee:= .builtin .append,args:= #[s,x],argTypes:= #[t,tx]})
 (base:Nat) (T:TypeId) (i:TypeInfo) (z:Value) (size bytes:Nat) (ht:P.underlying t=some (.slice T)) (hi:P.info? T=some i) (hz:i.zero=some z)
 (hsize:i.size=size) (hby:i.bytes=bytes) (hzs:z.cells.size=size)
 (v:Value) (n:Nat) (xs:List Value) (hs:a.eval s=v) (hown:Own w base T size v n xs)
 (vx:Value) (m:Nat) (news:List Value) (hx:a.eval x=vx) (hr:Src P size tx vx m news w)
 (hbytes:(n+m)*bytes≤140737488355328) (hsm:n+m≤140737488355328) (hbase:base≤w.heap.size)
 (h:∀v' w',Own w' base T size v' (n+m) (xs++news)→w.grownBy w' v.ownBlock→(v'.ownBlock=v.ownBlock∨v'.ownBlock=some w.heap.size)→Own w' base T size v n xs→wpList P ops Q rest (a.put o.dst v') w'):
 wpList P ops Q (o::rest) a w:=by
 refine wpList_plain hgd fun K hK=> ?_;obtain ⟨v',w',hr,h2,h3,h4,h5⟩:=p6 (P:=P) w base t tx o.type T i z size bytes ht hi hz hsize hby hzs v n xs hown vx m news hr hbytes hsm hbase;unfold Oper.wp execOp;simp only [ho,resolve,invoke,builtin,Sem.run_bind,Sem.run_pure,Result.andThen_ok,List.map_toArray,List.map_cons,List.map_nil,hs,hx,hr];exact hK _ _ (h v' w' h2 h3 h4 h5)
end laws
section laws
variable {w:World} {ops:Array Oper} {rest:List Oper} {o:Oper} {a:Act} {Q:Exit→Act→World→Prop}
theorem nL (hgd:o.guard=none) (s x:Operand)
 (ho:o.op= .call {callee:= .builtin .append,args:= #[s,x],argTypes:= #[41,41]})
 (base:Nat) (v:Value) (l:List UInt8) (hs:a.eval s=v) (hown:OwB w base v l)
 (vx:Value) (m:List UInt8) (hx:a.eval x=vx) (hr:RdB w vx m) (hsm:l.length+m.length≤140737488355328) (hbase:base≤w.heap.size)
 (h:∀v' w',OwB w' base v' (l++m)→w.grownBy w' v.ownBlock→(v'.ownBlock=v.ownBlock∨v'.ownBlock=some w.heap.size)→OwB w' base v l→wpList Tryz.prog ops Q rest (a.put o.dst v') w'):
 wpList Tryz.prog ops Q (o::rest) a w:=by
 obtain ⟨i,hi,hz0,hz1,hz2⟩:=info_parts b8;refine f7 hgd s x _ _ ho base 5 i _ 1 1 Tryz.underlying41 hi hz0 hz1 hz2 rfl v l.length (bvs l) hs hown vx m.length (bvs m) hx (Rd.src w Tryz.underlying41 (by omega) hr.rd (dL m)) (by omega) hsm hbase ?_;intro v' w' h1 h2 h3 h4;refine h v' w' ?_ h2 h3 h4;unfold OwB;rw [List.length_append,gF];exact h1
theorem cZ (hgd:o.guard=none) (s x:Operand)
 (ho:o.op= .call {callee:= .builtin .append,args:= #[s,x],argTypes:= #[41,41]})
 (base:Nat) (v:Value) (l:List UInt8) (hs:a.eval s=v) (hown:OwB w base v l)
 (y:UInt8) (u:Value) (hu:u= .int .u8 (y.toNat:Int)) (T:TypeId) (hx:a.eval x= .slice (some ⟨w.heap.size,0,none⟩) 1 1) (hsm:l.length+1≤140737488355328) (hbase:base≤w.heap.size)
 (h:∀v' w',OwB w' base v' (l++ [y])→w.grownBy w' v.ownBlock→(v'.ownBlock=v.ownBlock∨(v'.ownBlock=some (w.heap.size+1)))→OwB w' base v l→wpList Tryz.prog ops Q rest (a.put o.dst v') w'):
 wpList Tryz.prog ops Q (o::rest) a (w.alloc (.cells #[u] T)):=by
 subst hu;refine nL hgd s x ho base v l hs (hown.alloc _) (.slice (some ⟨w.heap.size,0,none⟩) 1 1) [y] hx (RdB.of_rd (n:=1) ?_) hsm (by simp;omega) ?_
 ·simpa [bvs,bv] using Rd.one w (.int .u8 (y.toNat:Int)) T
 ·intro v' w' h1 h2 h3 h4;refine h v' w' h1 ⟨h2.os,h2.tape,h2.output,?_,fun k hk hne=>(h2.block k (by simp;omega) hne).trans (Below.heap_alloc _ _ _ hk)⟩ (by simpa using h3) h4
  have:=h2.size
  simp at this;omega
theorem zEU:(Tryz.prog.info? 41).map (fun i=>(i.zero,i.size,i.bytes))=some (some (.slice none 0 0),1,24):=by kernel_rfl
end laws
theorem OwB.take {w:World} {base g n cap:Nat} {l:List UInt8} (h:OwB w base (.slice (some ⟨g,0,none⟩) n cap) l) {m:Nat} (hm:m≤n):OwB w base (.slice (some ⟨g,0,none⟩) m cap) (l.take m):=by
 have hn:=h.len;rcases h.2 with ⟨h,_⟩|⟨g',cap',cs,hv,hb,hg,h1,h2,h3,h4⟩
 ·cases h
 ·injection hv with hA _ hc;injection hA with hA;injection hA with hA;subst hA;subst hc
  have hl:(l.take m).length=m:=by simp;omega
  unfold OwB;rw [hl];refine ⟨by rw [yO,hl];omega,.inr ⟨g,cap,cs,rfl,hb,hg,by omega,h2,h3,?_⟩⟩;rw [cY,←h4,List.take_take]
  congr 1;omega
theorem Own.oblk {w:World} {base g:Nat} {T:TypeId} {size n:Nat} {v:Value} {xs:List Value} (h:Own w base T size v n xs) (hg:v.ownBlock=some g):∃cs,OBlk w g T cs:=by
 rcases h.2 with ⟨rfl,_⟩|⟨g',cap',cs,rfl,hb,ho,_⟩
 ·simp [Value.ownBlock] at hg
 ·simp [Value.ownBlock] at hg;subst hg;exact ⟨cs,ho⟩
theorem OwB.cap_eq {w:World} {b b' g n n' c c':Nat} {l l':List UInt8} (h:OwB w b (.slice (some ⟨g,0,none⟩) n c) l) (h':OwB w b' (.slice (some ⟨g,0,none⟩) n' c') l'):c=c':=by
 rcases h.2 with ⟨h,_⟩|⟨g1,c1,cs1,hv,_,hg,_,_,h3,_⟩
 ·cases h
 rcases h'.2 with ⟨h,_⟩|⟨g2,c2,cs2,hv',_,hg',_,_,h3',_⟩
 ·cases h
 injection hv with hA _ hc;injection hA with hA;injection hA with hA;injection hv' with hB _ hd;injection hB with hB;injection hB with hB;subst hA;subst hc;subst hB;subst hd;obtain ⟨_,rfl⟩:=hg.same hg';omega
theorem OwB.ne_own {w:World} {b b' g:Nat} {u v:Value} {l:List UInt8} {n:Nat} {vs:List Value} (h:OwB w b u l) (h':Own w b' 41 1 v n vs) (hg:v.ownBlock=some g):some g≠u.ownBlock:=by
 obtain ⟨cs,ho⟩:=h'.oblk hg;exact h.ne_blk ho (by decide)
end Go.Proofs.YtfcnkpofcekmgaaGreat
