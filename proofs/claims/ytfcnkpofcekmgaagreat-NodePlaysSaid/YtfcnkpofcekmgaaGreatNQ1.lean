/- Texts joined. -/
import Derived.Laws.BitsAllLaws
import Derived.WalkKit
import Derived.WalkSpells
import Derived.Maps.AppendAt
import Derived.Deep.AppendLies
import Derived.Deep.Draws
import Derived.Laws.CopyOwn
import Derived.Deep.AppendSrc
import Derived.Lib.Hide
set_option maxRecDepth 100000
set_option maxHeartbeats 64000000
namespace Go.Proofs.YtfcnkpofcekmgaaGreat
def qB (r:Nat):Nat:=if r%2=1 then (r/2)^^^2197175160 else r/2
def gP:Nat→Nat→Nat
 |0,r=>r
 |k+1,r=>gP k (qB r)
def gV (r:Nat) (x:UInt8):Nat:=gP 8 (r^^^x.toNat)
def kG (r:Nat) (l:List UInt8):Nat:=l.foldl gV r
def jQ (l:List UInt8):Nat:=kG 4294967295 l^^^4294967295
def halfTab:List Nat:= [0x00000000,0x105ec76f,0x20bd8ede,0x30e349b1,0x417b1dbc,0x5125dad3,0x61c69362,0x7198540d,0x82f63b78,0x92a8fc17,0xa24bb5a6,0xb21572c9,0xc38d26c4,0xd3d3e1ab,0xe330a81a,0xf36e6f75]
def fK (r:Nat):Nat:=halfTab.getD (r%16) 0
theorem zFZ (a b:Nat):(a^^^b)/2=a/2^^^b/2:=by
 apply Nat.eq_of_testBit_eq;intro i;simp [Nat.testBit_div_two,Nat.testBit_xor]
theorem zGD (a b:Nat):(a^^^b)%2=(a+b)%2:=by
 have h:=Nat.testBit_xor a b 0;simp only [Nat.testBit_zero] at h
 have ha:a%2=0∨a%2=1:=by omega
 have hb:b%2=0∨b%2=1:=by omega
 have hc:(a^^^b)%2=0∨(a^^^b)%2=1:=by omega
 rcases ha with ha|ha<;>rcases hb with hb|hb<;>rcases hc with hc|hc<;>simp [ha,hb,hc] at h<;>omega
theorem dD (r:Nat):qB r=r/2^^^(if r%2=1 then 2197175160 else 0):=by
 unfold qB;split<;>simp
theorem zAX (a b:Nat):qB (a^^^b)=qB a^^^qB b:=by
 rw [dD,dD,dD,zFZ,zGD]
 have ha:a%2=0∨a%2=1:=by omega
 have hb:b%2=0∨b%2=1:=by omega
 rcases ha with ha|ha<;>rcases hb with hb|hb
 ·rw [if_neg (by omega),if_neg (by omega),if_neg (by omega)];simp
 ·rw [if_pos (by omega),if_neg (by omega),if_pos (by omega)];simp [Nat.xor_assoc]
 ·rw [if_pos (by omega),if_pos (by omega),if_neg (by omega)];simp only [Nat.xor_zero];rw [Nat.xor_assoc,Nat.xor_assoc,Nat.xor_comm (b/2)]
 ·rw [if_neg (by omega),if_pos (by omega),if_pos (by omega)];simp only [Nat.xor_zero];rw [Nat.xor_assoc,Nat.xor_comm 2197175160,Nat.xor_assoc,Nat.xor_self,Nat.xor_zero]
theorem zES (k a b:Nat):gP k (a^^^b)=gP k a^^^gP k b:=by
 induction k generalizing a b with
 |zero=>rfl
 |succ k ih=>simp only [gP,zAX,ih]
theorem o5 (j k r:Nat):gP (j+k) r=gP k (gP j r):=by
 induction j generalizing r with
 |zero=>simp [gP]
 |succ j ih=>rw [Nat.succ_add];simp only [gP];exact ih _
theorem zDV (k q:Nat):gP k (2^k*q)=q:=by
 induction k generalizing q with
 |zero=>simp [gP]
 |succ k ih=>
  simp only [gP]
  have e:qB (2^(k+1)*q)=2^k*q:=by
   rw [Nat.pow_succ,Nat.mul_right_comm];unfold qB;rw [if_neg (by omega)];omega
  rw [e,ih]
theorem zCO (r:Nat) (h:r<4294967296):qB r<4294967296:=by
 rw [dD];refine Nat.xor_lt_two_pow (n:=32) (by omega) ?_
 split<;>omega
theorem zA4 (k r:Nat) (h:r<4294967296):gP k r<4294967296:=by
 induction k generalizing r with
 |zero=>exact h
 |succ k ih=>exact ih _ (zCO r h)
theorem zB6 (r:Nat):r=(2^4*(r/16))^^^(r%16):=by
 have:=nat_join 4 (2^4*(r/16)) (r%16) (by omega) (by omega)
 have h2:(2^4*(r/16))^^^(r%16)=(2^4*(r/16))|||(r%16):=by
  apply Nat.eq_of_testBit_eq;intro i;rw [Nat.testBit_xor,Nat.testBit_or]
  by_cases hi:i<4
  ·rw [Nat.testBit_two_pow_mul];simp [show ¬(4≤i) by omega]
  ·rw [show r%16=r%2^4 from rfl,Nat.testBit_mod_two_pow];simp [hi]
 rw [h2,this];omega
theorem zBO (r:Nat):fK r^^^r/16=gP 4 r:=by
 conv=>rhs;rw [zB6 r]
 rw [zES,zDV,Nat.xor_comm]
 congr 1
 have h:r%16<16:=by omega
 unfold fK;generalize r%16=k at h
 have:∀k,k<16→halfTab.getD k 0=gP 4 k:=by decide+kernel
 exact this k h
theorem oV (r:Nat):fK r<4294967296:=by
 have h:r%16<16:=by omega
 unfold fK;generalize r%16=k at h
 have:∀k,k<16→halfTab.getD k 0<4294967296:=by decide+kernel
 exact this k h
theorem uR (r:Nat) (x:UInt8):gV r x=fK (fK (r^^^x.toNat)^^^(r^^^x.toNat)/16)^^^(fK (r^^^x.toNat)^^^(r^^^x.toNat)/16)/16:=by
 rw [zBO,zBO,←o5];rfl
theorem eD (r:Nat) (x:UInt8) (h:r<4294967296):gV r x<4294967296:=
 zA4 8 _ (Nat.xor_lt_two_pow (n:=32) h (by have:=x.toNat_lt;omega))
theorem dH (r:Nat) (l:List UInt8) (h:r<4294967296):kG r l<4294967296:=by
 induction l generalizing r with
 |nil=>exact h
 |cons x l ih=>exact ih _ (eD r x h)
theorem rA (l:List UInt8):jQ l<4294967296:=Nat.xor_lt_two_pow (n:=32) (dH _ l (by omega)) (by omega)
theorem uG (r:Nat) (l m:List UInt8):kG r (l++m)=kG (kG r l) m:=by simp [kG]
theorem tU (r:Nat) (l:List UInt8) (x:UInt8):kG r (l++ [x])=gV (kG r l) x:=by simp [kG]
end Go.Proofs.YtfcnkpofcekmgaaGreat
namespace Go.Proofs.YtfcnkpofcekmgaaGreat
def yD:List UInt8→List UInt8→Int
 | [],[]=>0
 | [],_::_=> -1
 |_::_,[]=>1
 |x::a,y::b=>if x<y then -1 else if y<x then 1 else yD a b
theorem nK:∀(a:List UInt8),yD a a=0
 | []=>rfl
 |x::a=>by
  have h:¬x<x:=by rw [UInt8.lt_iff_toNat_lt];omega
  simp [yD,h,nK a]
theorem lL:∀(a b:List UInt8),yD a b=0→a=b
 | [],[],_=>rfl
 | [],_::_,h=>by simp [yD] at h
 |_::_,[],h=>by simp [yD] at h
 |x::a,y::b,h=>by
  unfold yD at h
  split at h
  ·simp at h
  ·rename_i h1
   split at h
   ·simp at h
   ·rename_i h2
    rw [UInt8.lt_iff_toNat_lt] at h1 h2;have e:x=y:=UInt8.toNat_inj.mp (by omega);rw [e,lL a b h]
theorem wP (x:UInt8) (a b:List UInt8):yD (x::a) (x::b)=yD a b:=by
 have h:¬x<x:=by rw [UInt8.lt_iff_toNat_lt];omega
 simp [yD,h]
theorem zG5 {x y:UInt8} (h:x<y) (a b:List UInt8):yD (x::a) (y::b)= -1:=by simp [yD,h]
theorem zHJ {x y:UInt8} (h:y<x) (a b:List UInt8):yD (x::a) (y::b)=1:=by
 have:¬x<y:=by rw [UInt8.lt_iff_toNat_lt] at*;omega
 simp [yD,this,h]
def yU:List UInt8→List UInt8→Nat
 |x::a,y::b=>if x=y then yU a b+1 else 0
 |_,_=>0
theorem fG:∀(a b:List UInt8),yU a b≤a.length∧yU a b≤b.length
 | [],_=>by simp [yU]
 |_::_,[]=>by simp [yU]
 |x::a,y::b=>by
  have:=fG a b
  unfold yU
  split<;>simp<;>omega
theorem nH:∀(a b:List UInt8),a.take (yU a b)=b.take (yU a b)
 | [],_=>by simp [yU]
 |_::_,[]=>by simp [yU]
 |x::a,y::b=>by
  have:=nH a b
  unfold yU
  split
  ·rename_i h;subst h;simp [this]
  ·simp
theorem zA8 {a b:List UInt8} {j:Nat} (h:j<yU a b):a[j]? =b[j]?:=by
 have h1:(a.take (yU a b))[j]? =(b.take (yU a b))[j]?:=by rw [nH]
 rwa [List.getElem?_take_of_lt h,List.getElem?_take_of_lt h] at h1
theorem pA:∀(a b:List UInt8) (h1:yU a b<a.length) (h2:yU a b<b.length),a[yU a b]≠b[yU a b]
 | [],_,h1,_=>by simp at h1
 |_::_,[],_,h2=>by simp at h2
 |x::a,y::b,h1,h2=>by
  by_cases h:x=y
  ·subst h
   have e:yU (x::a) (x::b)=yU a b+1:=by simp [yU]
   simp only [e] at h1 h2⊢
   have:=pA a b (by simpa using h1) (by simpa using h2)
   simpa using this
  ·have e:yU (x::a) (y::b)=0:=by simp [yU,h]
   simp only [e]
   simpa using h
theorem rE (a b:List UInt8) (k:Nat) (ha:k≤a.length) (hb:k≤b.length) (h:∀j,j<k→a[j]? =b[j]?) (hs:∀(h1:k<a.length) (h2:k<b.length),a[k]≠b[k]):yU a b=k:=by
 have hle:=fG a b;rcases Nat.lt_trichotomy (yU a b) k with hlt|he|hgt
 ·have h1:=pA a b (by omega) (by omega);have h2:=h _ hlt;rw [List.getElem?_eq_getElem (by omega),List.getElem?_eq_getElem (by omega)] at h2;exact absurd (Option.some.inj h2) h1
 ·exact he
 ·have h1:=hs (by omega) (by omega);have h2:=zA8 hgt;rw [List.getElem?_eq_getElem (by omega),List.getElem?_eq_getElem (by omega)] at h2;exact absurd (Option.some.inj h2) h1
end Go.Proofs.YtfcnkpofcekmgaaGreat
namespace Go.Proofs.YtfcnkpofcekmgaaGreat
open Go.RowKit
theorem jW (a:Addr) (i j:Nat):(a.add i).add j=a.add (i+j):=by
 unfold Addr.add
 by_cases hi:i=0<;>by_cases hj:j=0<;>simp [hi,hj,Nat.add_assoc]
theorem vH (g o j:Nat):(⟨g,o,none⟩:Addr).add j=⟨g,o+j,none⟩:=by
 unfold Addr.add;split<;>simp_all
theorem zDU {α:Type} (ls:List (List α)) (k:Nat) (h:k<ls.length):(ls.take (k+1)).flatten=(ls.take k).flatten++ls[k]:=by
 rw [List.take_succ_eq_append_getElem h,List.flatten_append];simp only [List.flatten_cons,List.flatten_nil,List.append_nil]
section splice
variable {α:Type}
theorem eG (cs:List α) (o:Nat) (v:α) (r:List α) (h:o<cs.length):splice (cs.set o v) (o+1) r=splice cs o (v::r):=by
 unfold splice;apply List.ext_getElem?;intro i;simp only [List.getElem?_append,List.length_take,List.length_set,List.getElem?_take,List.getElem?_drop,List.getElem?_set,List.length_cons]
 by_cases h1:i<o
 ·have:¬(o=i):=by omega
  simp [h1,show i<o+1 by omega,this,show i<min o cs.length by omega,show i<min (o+1) cs.length by omega]
 ·by_cases h2:i=o
  ·subst h2;simp [h,show i<min (i+1) cs.length by omega,show min i cs.length=i by omega]
  ·have e1:min (o+1) cs.length=o+1:=by omega
   have e2:min o cs.length=o:=by omega
   simp only [e1,e2,show ¬(i<o+1) by omega,show ¬(i<o) by omega,if_false]
   have e3:i-o=(i-(o+1))+1:=by omega
   rw [e3,List.getElem?_cons_succ];simp only [Nat.add_lt_add_iff_right,Nat.add_sub_add_right]
   by_cases h3:i-(o+1)<r.length
   ·simp [h3]
   ·simp only [h3,if_false];rw [if_neg (by omega)]
    congr 1;omega
theorem rW (cs:List α) (o:Nat):splice cs o []=cs:=by simp [splice]
theorem sE (cs:List α) (o:Nat) (r:List α) (h:o≤cs.length) (k:Nat) (hk:k≤o):(splice cs o r).take k=cs.take k:=by
 unfold splice;rw [List.take_append_of_le_length (by simp;omega),List.take_take]
 congr 1;omega
theorem fX (cs:List α) (o:Nat) (r:List α) (h:o≤cs.length):(splice cs o r).take (o+r.length)=cs.take o++r:=by
 unfold splice;rw [←List.append_assoc]
 have e:o+r.length=(cs.take o++r).length:=by simp;omega
 rw [e];exact List.take_left
end splice
def OBlk (w:World) (g:Nat) (T:TypeId) (cs:List Value):Prop:=
 ∃fr:Nat×Nat,w.heap[g]? =some (.cells cs.toArray T fr)∧∀j,j<cs.length→¬(fr.1≤j∧j<fr.2)
section OBlk
variable {w w':World} {g:Nat} {T:TypeId} {cs:List Value}
theorem OBlk.lt (h:OBlk w g T cs):g<w.heap.size:=by
 obtain ⟨fr,h,_⟩:=h;exact (Array.getElem?_eq_some_iff.1 h).1
theorem OBlk.cell (h:OBlk w g T cs) (j:Nat):w.cell? ⟨g,j,none⟩=cs[j]?:=by
 obtain ⟨fr,h,_⟩:=h;simp [World.cell?,h]
theorem OBlk.cell' (h:OBlk w g T cs) {j:Nat} {u:Value} (hj:cs[j]? =some u):w.cell? ⟨g,j,none⟩=some u:=(h.cell j).trans hj
theorem OBlk.frozen (h:OBlk w g T cs) {j:Nat} (hj:j<cs.length):w.frozen? ⟨g,j,none⟩=false:=by
 obtain ⟨fr,h,hf⟩:=h
 have:=hf j hj
 simp only [World.frozen?,h];obtain ⟨lo,hi⟩:=fr;simp at this⊢;exact this
theorem OBlk.new (w:World) (T:TypeId) (cs:Array Value):OBlk (w.alloc (.cells cs T)) w.heap.size T cs.toList:=
 ⟨(0,0),by simpa using heap_alloc_new w (.cells cs T),fun j _=>by simp⟩
theorem OBlk.new' (w:World) (T:TypeId) (cs:List Value):OBlk (w.alloc (.cells cs.toArray T)) w.heap.size T cs:=
 ⟨(0,0),heap_alloc_new w _,fun j _=>by simp⟩
theorem OBlk.of_heap (h:w'.heap[g]? =w.heap[g]?) (k:OBlk w g T cs):OBlk w' g T cs:=by
 obtain ⟨fr,h1,h2⟩:=k;exact ⟨fr,h.trans h1,h2⟩
theorem OBlk.alloc (h:OBlk w g T cs) (o:Obj):OBlk (w.alloc o) g T cs:=h.of_heap (Below.heap_alloc w o g h.lt)
theorem OBlk.drew (h:OBlk w g T cs):OBlk w.drew g T cs:=h
theorem OBlk.drewN (h:OBlk w g T cs) (n:Nat):OBlk (w.drewN n) g T cs:=h
theorem OBlk.far (h:OBlk w g T cs) {p:Addr} (hp:g≠p.block) (u:Value):OBlk (w.setCell p u) g T cs:=h.of_heap (Below.heap_setCell w p u g hp)
theorem OBlk.below {B:Nat} (h:OBlk w g T cs) (hb:Below B w w') (hg:g<B):OBlk w' g T cs:=h.of_heap (hb.block g hg)
theorem OBlk.grown {row:Option Nat} (h:OBlk w g T cs) (hb:w.grownBy w' row) (hg:some g≠row):OBlk w' g T cs:=h.of_heap (hb.block g h.lt hg)
theorem OBlk.set (h:OBlk w g T cs) (j:Nat) (u:Value):OBlk (w.setCell ⟨g,j,none⟩ u) g T (cs.set j u):=by
 obtain ⟨fr,h1,h2⟩:=h;refine ⟨fr,?_,fun k hk=>h2 k (by simpa using hk)⟩;simp [World.setCell,Array.getElem?_modify,h1,List.setIfInBounds_toArray]
theorem OBlk.ne {g':Nat} {T':TypeId} {cs':List Value} (h:OBlk w g T cs) (h':OBlk w g' T' cs') (hne:T≠T'):g≠g':=by
 rintro rfl;obtain ⟨fr,h1,_⟩:=h;obtain ⟨fr',h1',_⟩:=h';rw [h1] at h1';injection h1' with h1';injection h1' with _ ht;exact hne ht
theorem OBlk.same {T':TypeId} {cs':List Value} (h:OBlk w g T cs) (h':OBlk w g T' cs'):T=T'∧cs=cs':=by
 obtain ⟨fr,h1,_⟩:=h;obtain ⟨fr',h1',_⟩:=h';rw [h1] at h1';injection h1' with h1';injection h1' with hc ht;exact ⟨ht,by simpa using hc⟩
theorem OBlk.setCells:∀(vs:List Value) (o:Nat) (w:World) (cs:List Value),OBlk w g T cs→o+vs.length≤cs.length→OBlk (w.setCells g o vs) g T (splice cs o vs)
 | [],o,w,cs,h,_=>by rw [rW];exact h
 |v::r,o,w,cs,h,hl=>by
  simp only [List.length_cons] at hl
  have:=OBlk.setCells r (o+1) (w.setCell ⟨g,o,none⟩ v) (cs.set o v) (h.set o v) (by simp;omega)
  rw [eG cs o v r (by omega)] at this;exact this
end OBlk
theorem zY (w:World) (p:Addr) (u:Value):w.grownBy (w.setCell p u) (some p.block):=
 ⟨rfl,rfl,rfl,by simp,fun k _ hne=>Below.heap_setCell w p u k (fun e=>hne (by rw [e]))⟩
theorem xD {a b c:World} {row:Option Nat} (h:a.grownBy b row) (k:b.grownBy c row):a.grownBy c row:=
 ⟨k.os.trans h.os,k.tape.trans h.tape,k.output.trans h.output,Nat.le_trans h.size k.size,fun i hi hne=>(k.block i (Nat.lt_of_lt_of_le hi h.size) hne).trans (h.block i hi hne)⟩
theorem yX:∀(vs:List Value) (o:Nat) (w:World) (g:Nat),w.grownBy (w.setCells g o vs) (some g)
 | [],_,w,_=>World.grownBy.refl w _
 |v::r,o,w,g=>xD (zY w ⟨g,o,none⟩ v) (yX r (o+1) _ g)
def Rd (w:World) (size:Nat) (v:Value) (n:Nat) (xs:List Value):Prop:=
 xs.length=n*size∧∃A c,v= .slice A n c∧n≤c∧c≤maxLen∧∀j u,xs[j]? =some u→∃ad,A=some ad∧w.cell? (ad.add j)=some u
section Rd
variable {w w':World} {v:Value} {xs:List Value} {size n:Nat}
theorem Rd.keep (h:Rd w size v n xs) (hk:∀p:Addr,p.block<w.heap.size→w'.cell? p=w.cell? p):Rd w' size v n xs:=by
 obtain ⟨h0,A,c,rfl,h1,h2,h3⟩:=h;refine ⟨h0,A,c,rfl,h1,h2,fun j u hj=> ?_⟩;obtain ⟨ad,ha,hc⟩:=h3 j u hj;exact ⟨ad,ha,(hk _ (World.block_lt_of_cell? w _ hc)).trans hc⟩
theorem Rd.below (h:Rd w size v n xs) {B:Nat} (hb:Below B w w') (hB:w.heap.size≤B):Rd w' size v n xs:=h.keep fun _ hp=>hb.cell (by omega)
theorem Rd.alloc (h:Rd w size v n xs) (o:Obj):Rd (w.alloc o) size v n xs:=h.keep fun p hp=>World.cell?_alloc_lt w o p hp
theorem Rd.nil:Rd w size (.slice none 0 0) 0 []:=⟨by simp,none,0,rfl,by simp,by simp,fun j u h=>by simp at h⟩
theorem Rd.one (w:World) (x:Value) (T:TypeId):Rd (w.alloc (.cells #[x] T)) 1 (.slice (some ⟨w.heap.size,0,none⟩) 1 1) 1 [x]:=
 ⟨by simp,_,_,rfl,Nat.le_refl _,by simp [maxLen],fun j u hj=>⟨_,rfl,by rw [vH,(OBlk.new w T #[x]).cell];simpa using hj⟩⟩
theorem Rd.lit (w:World) (xs:List Value) (T:TypeId) (hm:xs.length≤maxLen):Rd (w.alloc (.cells xs.toArray T)) 1 (.slice (some ⟨w.heap.size,0,none⟩) xs.length xs.length) xs.length xs:=
 ⟨by simp,_,_,rfl,Nat.le_refl _,hm,fun j u hj=>⟨_,rfl,by rw [vH,(OBlk.new' w T xs).cell];simpa using hj⟩⟩
end Rd
def Own (w:World) (base:Nat) (T:TypeId) (size:Nat) (v:Value) (n:Nat) (xs:List Value):Prop:=
 xs.length=n*size∧((v= .slice none 0 0∧n=0)∨
  ∃g cap cs,v= .slice (some ⟨g,0,none⟩) n cap∧base≤g∧OBlk w g T cs∧n≤cap∧cap≤maxLen∧cs.length=cap*size∧cs.take (n*size)=xs)
section Own
variable {w w':World} {base:Nat} {T:TypeId} {size n:Nat} {v:Value} {xs:List Value}
theorem Own.nil (w:World) (base:Nat) (T:TypeId) (size:Nat):Own w base T size (.slice none 0 0) 0 []:=⟨by simp,.inl ⟨rfl,rfl⟩⟩
theorem Own.lt (h:Own w base T size v n xs):∀k,v.ownBlock=some k→base≤k∧k<w.heap.size:=by
 intro k hk;rcases h.2 with ⟨rfl,_⟩|⟨g,cap,cs,rfl,hb,hg,_⟩
 ·simp [Value.ownBlock] at hk
 ·simp [Value.ownBlock] at hk;subst hk;exact ⟨hb,hg.lt⟩
theorem Own.heap (h:Own w base T size v n xs) (hk:∀g,v.ownBlock=some g→w'.heap[g]? =w.heap[g]?):Own w' base T size v n xs:=by
 refine ⟨h.1,?_⟩;rcases h.2 with h|⟨g,cap,cs,rfl,hb,hg,r⟩
 ·exact .inl h
 ·exact .inr ⟨g,cap,cs,rfl,hb,hg.of_heap (hk g rfl),r⟩
theorem Own.grown {row:Option Nat} (h:Own w base T size v n xs) (hg:w.grownBy w' row) (hne:∀g,v.ownBlock=some g→some g≠row):Own w' base T size v n xs:=
 h.heap fun g hk=>hg.block g (h.lt g hk).2 (hne g hk)
theorem Own.below {B:Nat} (h:Own w base T size v n xs) (hb:Below B w w') (hB:∀g,v.ownBlock=some g→g<B):Own w' base T size v n xs:=
 h.heap fun g hk=>hb.block g (hB g hk)
theorem Own.below' {B:Nat} (h:Own w base T size v n xs) (hb:Below B w w') (hB:w.heap.size≤B):Own w' base T size v n xs:=
 h.below hb fun g hg=>by have:=(h.lt g hg).2;omega
theorem Own.alloc (h:Own w base T size v n xs) (o:Obj):Own (w.alloc o) base T size v n xs:=h.heap fun g hk=>Below.heap_alloc w o g (h.lt g hk).2
theorem Own.drew (h:Own w base T size v n xs):Own w.drew base T size v n xs:=h
theorem Own.far (h:Own w base T size v n xs) {p:Addr} (hp:v.ownBlock≠some p.block) (u:Value):Own (w.setCell p u) base T size v n xs:=
 h.heap fun g hk=>Below.heap_setCell w p u g (fun e=>hp (by rw [hk,e]))
theorem Own.base_le (h:Own w base T size v n xs) {b:Nat} (hb:∀g,v.ownBlock=some g→b≤g):Own w b T size v n xs:=by
 refine ⟨h.1,?_⟩;rcases h.2 with h|⟨g,cap,cs,rfl,_,r⟩
 ·exact .inl h
 ·exact .inr ⟨g,cap,cs,rfl,hb g rfl,r⟩
theorem Own.low (h:Own w base T size v n xs) {b:Nat} (hb:b≤base):Own w b T size v n xs:=h.base_le fun g hg=>Nat.le_trans hb (h.lt g hg).1
theorem Own.rd (h:Own w base T size v n xs):Rd w size v n xs:=by
 refine ⟨h.1,?_⟩;rcases h.2 with ⟨rfl,rfl⟩|⟨g,cap,cs,rfl,hb,hg,h1,h2,h3,h4⟩
 ·refine ⟨none,0,rfl,by simp,by simp,fun j u hj=> ?_⟩
  have:xs= []:=List.eq_nil_of_length_eq_zero (by simpa using h.1)
  subst this;simp at hj
 ·refine ⟨_,cap,rfl,h1,h2,fun j u hj=>⟨_,rfl,?_⟩⟩;rw [vH,hg.cell];rw [←h4,List.getElem?_take] at hj
  split at hj
  ·simpa using hj
  ·cases hj
theorem Own.cells {g cap:Nat} (h:Own w base T size (.slice (some ⟨g,0,none⟩) n cap) n xs) (j:Nat) (u:Value) (hj:xs[j]? =some u):w.cell? ⟨g,j,none⟩=some u:=by
 obtain ⟨_,A,c,hv,_,_,h3⟩:=h.rd;obtain ⟨ad,ha,hc⟩:=h3 j u hj;injection hv with hA;subst hA;injection ha with ha;subst ha;rw [vH] at hc
 simpa using hc
theorem Own.frozen {g cap:Nat} (h:Own w base T size (.slice (some ⟨g,0,none⟩) n cap) n xs) {j:Nat} (hj:j<xs.length):w.frozen? ⟨g,j,none⟩=false:=by
 rcases h.2 with ⟨h,_⟩|⟨g',cap',cs,hv,hb,hg,h1,h2,h3,h4⟩
 ·cases h
 ·injection hv with hA _ hc;injection hA with hA;injection hA with hA;subst hA;refine hg.frozen ?_;rw [←h4] at hj;simp at hj;omega
theorem Own.set {g cap:Nat} (h:Own w base T size (.slice (some ⟨g,0,none⟩) n cap) n xs) (j:Nat) (u:Value):Own (w.setCell ⟨g,j,none⟩ u) base T size (.slice (some ⟨g,0,none⟩) n cap) n (xs.set j u):=by
 refine ⟨by simpa using h.1,?_⟩;rcases h.2 with ⟨h,_⟩|⟨g',cap',cs,hv,hb,hg,h1,h2,h3,h4⟩
 ·cases h
 ·injection hv with hA _ hc;injection hA with hA;injection hA with hA;subst hA;subst hc;refine .inr ⟨g,cap,cs.set j u,rfl,hb,hg.set j u,h1,h2,by simpa using h3,?_⟩;rw [List.take_set,h4]
theorem Own.form (h:Own w base T size v n xs):(v= .slice none 0 0∧n=0)∨∃g cap,v= .slice (some ⟨g,0,none⟩) n cap∧base≤g∧g<w.heap.size∧n≤cap∧cap≤maxLen:=by
 rcases h.2 with h|⟨g,cap,cs,rfl,hb,hg,h1,h2,h3,h4⟩
 ·exact .inl h
 ·exact .inr ⟨g,cap,rfl,hb,hg.lt,h1,h2⟩
theorem Own.slice (h:Own w base T size v n xs):∃A cap,v= .slice A n cap:=by
 rcases h.form with ⟨rfl,rfl⟩|⟨g,cap,rfl,_⟩
 ·exact ⟨_,_,rfl⟩
 ·exact ⟨_,_,rfl⟩
theorem Own.made (w:World) (T:TypeId) (size:Nat) (n cap:Nat) (cs:List Value) (hb:base≤w.heap.size) (h1:n≤cap) (h2:cap≤maxLen) (h3:cs.length=cap*size):
 Own (w.alloc (.cells cs.toArray T)) base T size (.slice (some ⟨w.heap.size,0,none⟩) n cap) n (cs.take (n*size)):=by
 refine ⟨?_,.inr ⟨w.heap.size,cap,cs,rfl,hb,OBlk.new' w T cs,h1,h2,h3,rfl⟩⟩
 have:n*size≤cap*size:=Nat.mul_le_mul_right _ h1
 simp;omega
end Own
section append
variable {P:Program} (w:World)
theorem Rd.src {t T:TypeId} (ht:P.underlying t=some (.slice T)) {size:Nat} (hsz:0<size) {vx:Value} {m:Nat} {news:List Value} (hr:Rd w size vx m news) (h1:∀u∈news,u.oneCell'=true):Src P size t vx m news w:=by
 obtain ⟨hl,A,c,rfl,hc1,hc2,hcells⟩:=hr
 by_cases hm0:m=0
 ·subst hm0;have hn:news= []:=List.eq_nil_of_length_eq_zero (by simpa using hl);subst hn
  cases A with
  |none=>exact Src.ofNil w ht c
  |some ad=>exact Src.ofSlice w ht ad 0 c [] (by simp) (by simp) h1
 ·have hn0:0<news.length:=by rw [hl];exact Nat.mul_pos (by omega) hsz
  obtain ⟨a,rfl,_⟩:=hcells 0 _ (List.getElem?_eq_getElem hn0);refine Src.ofSlice w ht a m c news hl (fun j u hj=> ?_) h1;obtain ⟨a',he,h⟩:=hcells j u hj;injection he with he;subst he;exact h
theorem gH (base:Nat) (t tx ty T:TypeId) (i:TypeInfo) (z:Value) (size bytes:Nat) (ht:P.underlying t=some (.slice T)) (hi:P.info? T=some i) (hz:i.zero=some z)
 (hsize:i.size=size) (hby:i.bytes=bytes) (hzs:z.cells.size=size)
 (v:Value) (n:Nat) (xs:List Value) (hown:Own w base T size v n xs)
 (vx:Value) (m:Nat) (news:List Value) (hs:Src P size tx vx m news w)
 (hbytes:(n+m)*bytes≤140737488355328) (hsm:n+m≤140737488355328) (hbase:base≤w.heap.size):
 ∃v' w',(Builtin.append_ #[t,tx] ty #[v,vx]).run P w= .ok v' w'∧Own w' base T size v' (n+m) (xs++news)∧w.grownBy w' v.ownBlock∧
  (v'.ownBlock=v.ownBlock∨v'.ownBlock=some w.heap.size):=by
 subst hsize
 subst hby
 have h63:n+m≤maxLen:=by simp only [maxLen];omega
 have hl:=hs.newsLen
 have hlen:(xs++news).length=(n+m)*i.size:=by rw [List.length_append,hown.1,hl,Nat.add_mul]
 have grown:∀(old:Nat),old<n+m→∀(row:Option Nat),
  Own (w.drew.alloc (.cells ((xs++news).toArray++Builtin.zeroCells z.cells (grownCap w (n+m) old T-(n+m))) T)) base T i.size
   (.slice (some ⟨w.heap.size,0,none⟩) (n+m) (grownCap w (n+m) old T)) (n+m) (xs++news)∧
  w.grownBy (w.drew.alloc (.cells ((xs++news).toArray++Builtin.zeroCells z.cells (grownCap w (n+m) old T-(n+m))) T)) row:=by
  intro old ho row;have hge:=grownCap_ge w (n+m) old T;have hcm:grownCap w (n+m) old T≤maxLen:=grownCap_le_maxLen w (n+m) old T h63;refine ⟨⟨hlen,.inr ⟨w.heap.size,_,_,rfl,hbase,OBlk.new w.drew T _,hge,hcm,?_,?_⟩⟩,⟨rfl,rfl,rfl,by simp,fun k hk _=>heap_alloc_old w.drew _ hk⟩⟩
  ·have hs:(Builtin.zeroCells z.cells (grownCap w (n+m) old T-(n+m))).toList.length=(grownCap w (n+m) old T-(n+m))*i.size:=by
    rw [Array.length_toList,size_zeroCells,hzs]
   rw [Array.toList_append,List.length_append,hs];simp only [hlen,←Nat.add_mul]
   congr 1
   omega
  ·simp only [Array.toList_append];rw [←hlen];exact List.take_left
 rcases hown.2 with ⟨rfl,rfl⟩|⟨g,cap,cs,rfl,hbg,hg,hnc,hcm,hcs,htake⟩
 ·have hx:xs= []:=List.eq_nil_of_length_eq_zero (by simpa using hown.1);subst hx
  by_cases hm0:m=0
  ·subst hm0;have hn:news= []:=List.eq_nil_of_length_eq_zero (by simpa using hl);subst hn;refine ⟨.slice none 0 0,w,?_,by simpa using hown,World.grownBy.refl w _,.inl rfl⟩;rcases hs.kind with ⟨e',hk⟩|hk<;>simp [Builtin.append_,run_underlying ht,run_underlying hk,sizeOf,typeInfo,hi,hs.len,hs.cells]
  ·have hr:=run_append_grow_src (P:=P) w t tx ty T i z ht hi hz none 0 0 [] (by simp [Builtin.firstCells]) vx m news hs (by omega) (by omega) (by have hb:=hbytes;exact growslice_fits (by omega) hb);have hgr:=grown 0 (by omega) (Value.ownBlock (.slice none 0 0));exact ⟨_,_,hr,hgr.1,hgr.2,Or.inr rfl⟩
 ·by_cases hroom:n+m≤cap
  ·have hle:n*i.size+news.length≤cs.length:=by rw [hl,hcs,←Nat.add_mul];exact Nat.mul_le_mul_right _ hroom
   have hr:=run_append_room_src (P:=P) w t tx ty T i ht hi g 0 n cap vx m news hs hroom (fun j hj=>by rw [hg.cell];simp;omega) (fun j hj=>hg.frozen (by omega));rw [Nat.zero_add] at hr;refine ⟨_,_,hr,⟨hlen,.inr ⟨g,cap,_,rfl,hbg,OBlk.setCells news _ w cs hg hle,hroom,hcm,?_,?_⟩⟩,yX _ _ _ _,.inl rfl⟩
   ·rw [length_splice _ _ _ hle,hcs]
   ·rw [Nat.add_mul,←hl,fX _ _ _ (by omega),htake]
  ·have holds:(Builtin.firstCells i.size n (.slice (some ⟨g,0,none⟩) n cap)).run P w.drew= .ok xs.toArray w.drew:=
    run_firstCells_some w.drew i.size n ⟨g,0,none⟩ n cap xs hown.1 (fun j u hj=>by rw [vH];simpa using hown.cells j u hj)
   have hr:=run_append_grow_src (P:=P) w t tx ty T i z ht hi hz (some ⟨g,0,none⟩) n cap xs holds vx m news hs (by omega) (by omega) (growslice_fits (by omega) hbytes);have hgr:=grown cap (by omega) (Value.ownBlock (.slice (some ⟨g,0,none⟩) n cap));exact ⟨_,_,hr,hgr.1,hgr.2,Or.inr rfl⟩
end append
section laws
variable {P:Program} {w:World} {ops:Array Oper} {rest:List Oper} {o:Oper} {a:Act} {Q:Exit→Act→World→Prop}
theorem gA (hgd:o.guard=none) (s x:Operand) (t tx:TypeId)
 (ho:o.op= .call {callee:= .builtin .append,args:= #[s,x],argTypes:= #[t,tx]})
 (base:Nat) (T:TypeId) (i:TypeInfo) (z:Value) (size bytes:Nat) (ht:P.underlying t=some (.slice T)) (hi:P.info? T=some i) (hz:i.zero=some z)
 (hsize:i.size=size) (hby:i.bytes=bytes) (hzs:z.cells.size=size)
 (v:Value) (n:Nat) (xs:List Value) (hs:a.eval s=v) (hown:Own w base T size v n xs)
 (vx:Value) (m:Nat) (news:List Value) (hx:a.eval x=vx) (hr:Src P size tx vx m news w)
 (hbytes:(n+m)*bytes≤140737488355328) (hsm:n+m≤140737488355328) (hbase:base≤w.heap.size)
 (h:∀v' w',Own w' base T size v' (n+m) (xs++news)→w.grownBy w' v.ownBlock→(v'.ownBlock=v.ownBlock∨v'.ownBlock=some w.heap.size)→wpList P ops Q rest (a.put o.dst v') w'):
 wpList P ops Q (o::rest) a w:=by
 refine wpList_plain hgd fun K hK=> ?_;obtain ⟨v',w',hr,h2,h3,h4⟩:=gH (P:=P) w base t tx o.type T i z size bytes ht hi hz hsize hby hzs v n xs hown vx m news hr hbytes hsm hbase;unfold Oper.wp execOp;simp only [ho,resolve,invoke,builtin,Sem.run_bind,Sem.run_pure,Result.andThen_ok,List.map_toArray,List.map_cons,List.map_nil,hs,hx,hr];exact hK _ _ (h v' w' h2 h3 h4)
theorem oL {K:Act→World→Prop} {E:Prop} (hgd:o.guard=none) (s x:Operand) (t tx:TypeId)
 (ho:o.op= .call {callee:= .builtin .append,args:= #[s,x],argTypes:= #[t,tx]})
 (base:Nat) (T:TypeId) (i:TypeInfo) (z:Value) (size bytes:Nat) (ht:P.underlying t=some (.slice T)) (hi:P.info? T=some i) (hz:i.zero=some z)
 (hsize:i.size=size) (hby:i.bytes=bytes) (hzs:z.cells.size=size)
 (v:Value) (n:Nat) (xs:List Value) (hs:a.eval s=v) (hown:Own w base T size v n xs)
 (vx:Value) (m:Nat) (news:List Value) (hx:a.eval x=vx) (hr:Src P size tx vx m news w)
 (hbytes:(n+m)*bytes≤140737488355328) (hsm:n+m≤140737488355328) (hbase:base≤w.heap.size)
 (h:∀v' w',Own w' base T size v' (n+m) (xs++news)→w.grownBy w' v.ownBlock→(v'.ownBlock=v.ownBlock∨v'.ownBlock=some w.heap.size)→K (a.put o.dst v') w'):
 if Region.wanted o (yielded ops a.tmps)=true then Oper.wp P o a w K Q else E:=by
 have hw:Region.wanted o (yielded ops a.tmps)=true:=by simp [Region.wanted,hgd]
 rw [if_pos hw];obtain ⟨v',w',hr,h2,h3,h4⟩:=gH (P:=P) w base t tx o.type T i z size bytes ht hi hz hsize hby hzs v n xs hown vx m news hr hbytes hsm hbase;unfold Oper.wp execOp;simp only [ho,resolve,invoke,builtin,Sem.run_bind,Sem.run_pure,Result.andThen_ok,List.map_toArray,List.map_cons,List.map_nil,hs,hx,hr];exact h v' w' h2 h3 h4
theorem d9 (w:World) (dT sT ty T:TypeId) (hu:P.underlying dT=some (.slice T)) (hsz:(P.info? T).map (·.size)=some 1)
 (dA:Option Addr) (dLen dCap g off:Nat) (cs:List Value) (T':TypeId) (hg:OBlk w g T' cs) (hd:0<dLen→dA=some ⟨g,off,none⟩) (hfit:off+dLen≤cs.length)
 (vx:Value) (m:Nat) (news:List Value) (hr:Rd w 1 vx m news) (h1:∀u∈news,u.oneCell'=true):
 (Builtin.copy_ #[dT,sT] ty #[.slice dA dLen dCap,vx]).run P w= .ok (goInt (min m dLen:Nat)) (w.setCells g off (news.take (min m dLen))):=by
 obtain ⟨hl,A,c,rfl,hc1,hc2,hcells⟩:=hr
 have hl':news.length=m:=by simpa using hl
 by_cases h0:min m dLen=0
 ·rw [h0]
  have:=run_copy_none (P:=P) w dT sT ty T dA A dLen dCap m c hu hsz (by simpa [Nat.min_def] using h0)
  rw [this];rfl
 ·obtain rfl:=hd (by omega);obtain ⟨a,rfl,_⟩:=hcells 0 _ (List.getElem?_eq_getElem (by omega))
  have hnews:∀j u,(news.take (min m dLen))[j]? =some u→w.cell? (a.add j)=some u:=fun j u hj=>by
   rw [List.getElem?_take] at hj
   split at hj
   ·obtain ⟨a',he,h⟩:=hcells j u hj;injection he with he;subst he;exact h
   ·cases hj
  have hlen:(news.take (min m dLen)).length=min m dLen:=by simp;omega
  obtain ⟨i,hi,hs1⟩:=Option.map_eq_some_iff.1 hsz;have hf:=run_firstCells_some (P:=P) w 1 (min m dLen) a m c (news.take (min m dLen)) (by simpa using hlen) hnews
  have hst:=run_storeCells_cells (P:=P) g off (news.take (min m dLen)) 0 w
   (fun j hj=>by rw [hg.cell];simp;omega) (fun j hj=>hg.frozen (by omega)) (fun u hu=>h1 u (List.mem_of_mem_take hu))
  simp only [Nat.add_zero] at hst;have hmin:Nat.min m dLen=min m dLen:=rfl;simp [Builtin.copy_,run_underlying hu,sizeOf,typeInfo,hi,hs1,Builtin.lenOf,hmin,hf,hst]
theorem zGZ (hgd:o.guard=none) (d s:Operand) (dT sT:TypeId)
 (ho:o.op= .call {callee:= .builtin .copy,args:= #[d,s],argTypes:= #[dT,sT]}) (T:TypeId) (hu:P.underlying dT=some (.slice T)) (hsz:(P.info? T).map (·.size)=some 1)
 (dA:Option Addr) (dLen dCap g off:Nat) (hd':a.eval d= .slice dA dLen dCap) (cs:List Value) (T':TypeId) (hg:OBlk w g T' cs) (hd:0<dLen→dA=some ⟨g,off,none⟩) (hfit:off+dLen≤cs.length)
 (vx:Value) (m:Nat) (news:List Value) (hx:a.eval s=vx) (hr:Rd w 1 vx m news) (h1:∀u∈news,u.oneCell'=true)
 (h:∀w',OBlk w' g T' (splice cs off (news.take (min m dLen)))→w.grownBy w' (some g)→wpList P ops Q rest (a.put o.dst (goInt (min m dLen:Nat))) w'):wpList P ops Q (o::rest) a w:=by
 refine wpList_plain hgd fun K hK=> ?_;have hrun:=d9 (P:=P) w dT sT o.type T hu hsz dA dLen dCap g off cs T' hg hd hfit vx m news hr h1;unfold Oper.wp;simp [execOp,ho,resolve,invoke,builtin,hd',hx,hrun,Result.andThen];refine hK _ _ (h _ (OBlk.setCells _ _ _ _ hg ?_) (yX _ _ _ _))
 simp;omega
theorem dM {d:Option Tmp} {x y:Operand} {t u ty:TypeId} {pos:String} {af:Array Edge} {gd:Option (Nat×Bool)}
 (h:wpList P ops Q ({dst:=d,op:=Op.call {callee:=Callee.builtin Builtin.copy,args:= #[x,y],argTypes:= #[t,u]},type:=ty,pos:=pos,after:=af,guard:=gd}::rest) a w):
 wpList P ops Q ({dst:=d,op:=Op.call {callee:=Callee.builtin Builtin.copy,args:= #[x,y],argTypes:= #[t,u]},type:=ty,pos:=pos,after:=af,guard:=gd}::rest) a w:=h
end laws
end Go.Proofs.YtfcnkpofcekmgaaGreat
