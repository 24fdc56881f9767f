/- Texts joined. -/
import Derived.Test.YtfcnkpofcekmgaaGreatNQ9
set_option maxRecDepth 100000
set_option maxHeartbeats 64000000
namespace Go.Proofs.YtfcnkpofcekmgaaGreat
def xZ (n:Int):Nat:=(n%18446744073709551616).toNat
theorem xW (n:Int):xZ n<18446744073709551616:=by unfold xZ;omega
theorem dJ {n:Int} (h:0≤n) (h2:n<18446744073709551616):xZ n=n.toNat:=by unfold xZ;rw [Int.emod_eq_of_lt h h2]
def u8I (k:Int):UInt8:=UInt8.ofNat (k%256).toNat
def yI (kind:Int) (i:Nat) (key:List UInt8) (pre:Nat):List UInt8:=if kind=3∧i=0 then key else key.drop pre
def kvF (c:PC):List UInt8:=if c.kind=1 then zR c.val.length++c.val else zR (xZ c.page)++zR (xZ c.count)
def pcF (kind:Int) (i:Nat) (c:PC) (pre:Nat):List UInt8:=u8I c.kind::(zR (yI kind i c.key pre).length++(yI kind i c.key pre++kvF c))
def zN (kind:Int) (pre:Nat):Nat→List PC→List UInt8
 |_,[]=> []
 |i,c::r=>pcF kind i c pre++zN kind pre (i+1) r
def yH (kind:Int) (pre:Nat):Nat→Nat→List PC→List UInt8
 |_,_,[]=> []
 |a,i,c::r=>zI a 2++yH kind pre (a+(pcF kind i c pre).length) (i+1) r
def z5 (kind:Int) (l:List PC) (pre:Nat):Nat:=10+pre+2*l.length+(zN kind pre 0 l).length
def xL (kind:Int) (l:List PC):List (List UInt8):=(if kind=3 then l.drop 1 else l).map PC.key
def zD (kind:Int) (l:List PC):Nat:=vL (xL kind l)
def zS (kind:Int) (l:List PC):Nat:=z5 kind l (zD kind l)
def kQ (kind:Int) (l:List PC) (P:Nat):Int:=if yT kind P none l≠0 then yT kind P none l else if P<zS kind l then 61 else 0
def xE (kind:Int) (l:List PC):List UInt8:=match l.getLast? with
 |none=> []
 |some c=>c.key.take (zD kind l)
def vT (kind:Int) (l:List PC) (P:Nat):List UInt8:=
 u8I kind::2::(zI l.length 2++(zI (zD kind l) 2++(xE kind l++(yH kind (zD kind l) (6+zD kind l+2*l.length) 0 l++(zN kind (zD kind l) 0 l++List.replicate (P-zS kind l) 0)))))
def x9 (kind:Int) (l:List PC) (P:Nat):List UInt8:=vT kind l P++zI (jQ (vT kind l P)) 4
theorem qH {kind:Int} {l:List PC} {P:Nat}:kQ kind l P=0↔yT kind P none l=0∧zS kind l≤P:=by
 unfold kQ
 split
 ·rename_i h;exact ⟨fun e=>absurd e h,fun e=>absurd e.1 h⟩
 ·rename_i h
  split
  ·exact ⟨fun e=>by omega,fun e=>by omega⟩
  ·exact ⟨fun _=>⟨by simpa using h,by omega⟩,fun _=>rfl⟩
theorem vA (kind:Int) (pre:Nat):∀(a i:Nat) (l:List PC),(yH kind pre a i l).length=2*l.length
 |_,_,[]=>rfl
 |a,i,c::r=>by simp only [yH,List.length_append,zE,vA,List.length_cons];omega
theorem xN (kind:Int) (pre:Nat):∀(i:Nat) (a b:List PC),zN kind pre i (a++b)=zN kind pre i a++zN kind pre (i+a.length) b
 |i,[],b=>rfl
 |i,c::r,b=>by
  simp only [List.cons_append,zN,xN kind pre (i+1) r b,List.append_assoc,List.length_cons];rw [show i+1+r.length=i+(r.length+1) by omega]
theorem gE (kind:Int) (pre:Nat):∀(a i:Nat) (x y:List PC),yH kind pre a i (x++y)=yH kind pre a i x++yH kind pre (a+(zN kind pre i x).length) (i+x.length) y
 |a,i,[],y=>rfl
 |a,i,c::r,y=>by
  simp only [List.cons_append,yH,gE kind pre _ (i+1) r y,List.append_assoc,List.length_cons,zN,List.length_append];rw [show i+1+r.length=i+(r.length+1) by omega,show a+(pcF kind i c pre).length+(zN kind pre (i+1) r).length=a+((pcF kind i c pre).length+(zN kind pre (i+1) r).length) by omega]
theorem zAT (t:List UInt8) (r:List (List UInt8)):vL (t::r)≤t.length∧∀x∈r,vL (t::r)≤yU t x:=by
 show r.foldl (fun n x=>min n (yU t x)) t.length≤t.length∧_
 have key:∀(r:List (List UInt8)) (m:Nat),r.foldl (fun n x=>min n (yU t x)) m≤m∧∀x∈r,r.foldl (fun n x=>min n (yU t x)) m≤yU t x:=by
  intro r
  induction r with
  |nil=>intro m;exact ⟨Nat.le_refl _,by simp⟩
  |cons y s ih=>
   intro m;have h:=ih (min m (yU t y));refine ⟨Nat.le_trans h.1 (Nat.min_le_left _ _),fun x hx=> ?_⟩;rcases List.mem_cons.1 hx with rfl|hx
   ·exact Nat.le_trans h.1 (Nat.min_le_right _ _)
   ·exact h.2 x hx
 exact ⟨(key r t.length).1,fun x hx=>(key r t.length).2 x hx⟩
theorem cS {ks:List (List UInt8)} {x y:List UInt8} (hx:x∈ks) (hy:y∈ks):vL ks≤x.length∧x.take (vL ks)=y.take (vL ks):=by
 cases ks with
 |nil=>cases hx
 |cons t r=>
  obtain ⟨h1,h2⟩:=zAT t r
  have key:∀z∈t::r,vL (t::r)≤z.length∧z.take (vL (t::r))=t.take (vL (t::r)):=fun z hz=>by
   rcases List.mem_cons.1 hz with rfl|hz
   ·exact ⟨h1,rfl⟩
   ·have h3:=h2 z hz;have h4:=fG t z;refine ⟨by omega,?_⟩;have e:=nH t z;have e2:=congrArg (List.take (vL (t::r))) e;rw [List.take_take,List.take_take,Nat.min_eq_left h3] at e2;exact e2.symm
  exact ⟨(key x hx).1,(key x hx).2.trans (key y hy).2.symm⟩
theorem xS {kind:Int} {l:List PC} {i:Nat} (hi:i<l.length) (hn:¬(kind=3∧i=0)):
 zD kind l≤l[i].key.length∧l[i].key=xE kind l++l[i].key.drop (zD kind l)∧(xE kind l).length=zD kind l:=by
 have hmem:∀j (hj:j<l.length),¬(kind=3∧j=0)→l[j].key∈xL kind l:=fun j hj hnj=>by
  unfold xL;refine List.mem_map_of_mem ?_
  by_cases hk:kind=3
  ·rw [if_pos hk]
   have:l[j]=(l.drop 1)[j-1]'(by simp;omega):=by simp only [List.getElem_drop];congr 1;omega
   rw [this];exact List.getElem_mem _
  ·rw [if_neg hk];exact List.getElem_mem _
 have hlast:l.getLast? =some (l[l.length-1]'(by omega)):=by rw [List.getLast?_eq_getElem?,List.getElem?_eq_getElem (by omega)]
 have hp:xE kind l=(l[l.length-1]'(by omega)).key.take (zD kind l):=by unfold xE;rw [hlast]
 have hm1:=hmem i hi hn;have hm2:=hmem (l.length-1) (by omega) (fun h=>hn ⟨h.1,by omega⟩);have h1:=cS hm1 hm2;have h2:=cS hm2 hm1;refine ⟨h1.1,?_,?_⟩
 ·rw [hp]
  have:(l[l.length-1]'(by omega)).key.take (zD kind l)=l[i].key.take (zD kind l):=h2.2
  rw [this,List.take_append_drop]
 ·rw [hp,List.length_take];exact Nat.min_eq_left h2.1
theorem pY (kind:Int) (l:List PC):(xE kind l).length≤zD kind l:=by
 unfold xE
 split
 ·simp
 ·rw [List.length_take];omega
theorem jN {kind:Int} {l:List PC} (h:0<zD kind l):∃i,∃_hi:i<l.length,¬(kind=3∧i=0):=by
 unfold zD xL at h
 by_cases hk:kind=3
 ·rw [if_pos hk] at h;refine ⟨1,?_,by omega⟩;rcases Nat.lt_or_ge 1 l.length with h1|h1
  ·exact h1
  ·rw [List.drop_of_length_le h1] at h;simp [vL] at h
 ·refine ⟨0,?_,by omega⟩;rcases Nat.eq_zero_or_pos l.length with h1|h1
  ·rw [if_neg hk,List.eq_nil_of_length_eq_zero h1] at h;simp [vL] at h
  ·exact h1
theorem yQ (kind:Int) (l:List PC):(xE kind l).length=zD kind l:=by
 rcases Nat.eq_zero_or_pos (zD kind l) with h|h
 ·have:=pY kind l;omega
 ·obtain ⟨i,hi,hn⟩:=jN h;exact (xS hi hn).2.2
theorem kW {kind:Int} {l:List PC} {P:Nat} (h:zS kind l≤P):(vT kind l P).length=P-4:=by
 have e:zS kind l=10+zD kind l+2*l.length+(zN kind (zD kind l) 0 l).length:=rfl;unfold vT;simp only [List.length_cons,List.length_append,zE,yQ,vA,List.length_replicate];omega
theorem q9 {kind:Int} {l:List PC} {P:Nat} (h:zS kind l≤P):(x9 kind l P).length=P:=by
 have e:zS kind l=10+zD kind l+2*l.length+(zN kind (zD kind l) 0 l).length:=rfl;unfold x9;rw [List.length_append,kW h,zE];omega
def readK (d:List UInt8) (kind:Int) (i:Nat) (pre:List UInt8) (at_:Nat):Option (PC×Nat):=
 if d.length≤at_ then none else
 if (ruF 0 0 (d.drop (at_+1))).2.2≠0 then none else
 if d.length<at_+1+(ruF 0 0 (d.drop (at_+1))).2.1+(ruF 0 0 (d.drop (at_+1))).1 then none else
 readT d ((if kind=3∧i=0 then [] else pre)++(d.drop (at_+1+(ruF 0 0 (d.drop (at_+1))).2.1)).take (ruF 0 0 (d.drop (at_+1))).1) ((d.getD at_ 0).toNat:Int) (at_+1+(ruF 0 0 (d.drop (at_+1))).2.1+(ruF 0 0 (d.drop (at_+1))).1)
 where
  readT (d key:List UInt8) (kb:Int) (t:Nat):Option (PC×Nat):=
   if (ruF 0 0 (d.drop t)).2.2≠0 then none else
   if kb=1 then
    if d.length<t+(ruF 0 0 (d.drop t)).2.1+(ruF 0 0 (d.drop t)).1 then none
    else some (⟨key,kb,(d.drop (t+(ruF 0 0 (d.drop t)).2.1)).take (ruF 0 0 (d.drop t)).1,0,0⟩,t+(ruF 0 0 (d.drop t)).2.1+(ruF 0 0 (d.drop t)).1)
   else readN d key kb (ruF 0 0 (d.drop t)).1 (t+(ruF 0 0 (d.drop t)).2.1)
  readN (d key:List UInt8) (kb:Int) (pg t:Nat):Option (PC×Nat):=
   if 2147483648<pg then none else
   if (ruF 0 0 (d.drop t)).2.2≠0 then none else
   if 2147483648<(ruF 0 0 (d.drop t)).1 then none
   else some (⟨key,kb,[],pg,((ruF 0 0 (d.drop t)).1:Nat)⟩,t+(ruF 0 0 (d.drop t)).2.1)
def kB (b d:List UInt8) (kind:Int) (pre:List UInt8):Nat→Nat→Nat→Option (List PC)
 |_,_,0=>some []
 |i,a,m+1=>if zL b (6+pre.length+2*i) 2≠a then none else match readK d kind i pre a with
  |none=>none
  |some (c,t)=>(kB b d kind pre (i+1) t m).map (c:: ·)
def tG (b:List UInt8):List UInt8:=(b.drop 6).take (zL b 4 2)
def cP (b:List UInt8):Option (List PC):=
 if b.length-4<6+zL b 4 2+2*zL b 2 2 then none
 else kB b (b.take (b.length-4)) (vD b) (tG b) 0 (6+zL b 4 2+2*zL b 2 2) (zL b 2 2)
theorem rB {d pre rest:List UInt8} {n t:Nat} (hd:d=pre++(zR n++rest)) (ht:pre.length=t) (hn:n<18446744073709551616):ruF 0 0 (d.drop t)=(n,(zR n).length,0):=by
 subst hd ht;rw [List.drop_left]
 have:=zCT 0 n 0 rest (by simpa using hn) (.inl rfl) (by omega)
 simpa using this
theorem zCV {P:Nat} {d pre rest key:List UInt8} {c:PC} {t:Nat} (hc:OkC P c) (h1:c.kind≠1) (hd:d=pre++(zR (xZ c.count)++rest)) (ht:pre.length=t) (hk:key=c.key):
 readK.readN d key c.kind (xZ c.page) t=some (c,t+(zR (xZ c.count)).length):=by
 obtain ⟨hv,hp0,hp1,hc0,hc1⟩:=hc.v1 h1;have e1:xZ c.page=c.page.toNat:=dJ hp0 (by omega);have e2:xZ c.count=c.count.toNat:=dJ hc0 (by omega);have hr:=rB hd ht (xW _);unfold readK.readN;rw [hr];simp only;rw [if_neg (by omega),if_neg (by simp),if_neg (by omega),e1,e2,hk];obtain ⟨key,kind,val,page,count⟩:=c;simp only at hv hp0 hc0⊢;subst hv;rw [show ((page.toNat:Nat):Int)=page by omega,show ((count.toNat:Nat):Int)=count by omega]
theorem zCB {P:Nat} {d pre rest key:List UInt8} {c:PC} {t:Nat} (hc:OkC P c) (hP:P≤65536) (hd:d=pre++(kvF c++rest)) (ht:pre.length=t) (hk:key=c.key):
 readK.readT d key c.kind t=some (c,t+(kvF c).length):=by
 unfold readK.readT
 by_cases h1:c.kind=1
 ·obtain ⟨hv,hp0,hc0⟩:=hc.v0 h1
  have e:kvF c=zR c.val.length++c.val:=by unfold kvF;rw [if_pos h1]
  rw [e] at hd⊢;have hr:=rB (d:=d) (n:=c.val.length) (rest:=c.val++rest) (by rw [hd,List.append_assoc]) ht (by omega);rw [hr];simp only
  have hl:t+(zR c.val.length).length+c.val.length≤d.length:=by rw [hd];simp;omega
  rw [if_neg (by simp),if_pos h1,if_neg (by omega)]
  have e2:(d.drop (t+(zR c.val.length).length)).take c.val.length=c.val:=by
   refine bR (pre:=pre++zR c.val.length) (rest:=rest) (by rw [hd];simp) (by simp [ht]) rfl
  rw [e2,hk];obtain ⟨key,kind,val,page,count⟩:=c;simp only at hp0 hc0 h1⊢;subst hp0 hc0 h1
  simp;omega
 ·have e:kvF c=zR (xZ c.page)++zR (xZ c.count):=by unfold kvF;rw [if_neg h1]
  rw [e] at hd⊢;have hr:=rB (d:=d) (n:=xZ c.page) (rest:=zR (xZ c.count)++rest) (by rw [hd,List.append_assoc]) ht (xW _);rw [hr];simp only;rw [if_neg (by simp),if_neg h1,zCV (pre:=pre++zR (xZ c.page)) (rest:=rest) hc h1 (by rw [hd];simp) (by simp [ht]) hk]
  simp;omega
theorem tV {P:Nat} {d pr rest pre:List UInt8} {kind:Int} {i:Nat} {c:PC} {at_ s:Nat} (hc:OkC P c) (hP:P≤65536) (hd:d=pr++(pcF kind i c s++rest)) (ha:pr.length=at_)
 (hk:c.key=(if kind=3∧i=0 then [] else pre)++yI kind i c.key s):readK d kind i pre at_=some (c,at_+(pcF kind i c s).length):=by
 have hrl:(yI kind i c.key s).length≤c.key.length:=by unfold yI;split<;>simp
 have hk0:=hc.k0;have hkd:=hc.kd;generalize hr:yI kind i c.key s=r at*
 have hp:pcF kind i c s=u8I c.kind::(zR r.length++(r++kvF c)):=by unfold pcF;rw [hr]
 rw [hp] at hd⊢;have h1:=rB (d:=d) (pre:=pr++ [u8I c.kind]) (n:=r.length) (t:=at_+1) (rest:=r++(kvF c++rest)) (by rw [hd];simp) (by simp [ha]) (by omega)
 have hl:at_+1+(zR r.length).length+r.length+(kvF c).length≤d.length:=by rw [hd];simp;omega
 have hu:=vQ r.length
 have e2:(d.drop (at_+1+(zR r.length).length)).take r.length=r:=by
  refine bR (pre:=pr++(u8I c.kind::zR r.length)) (rest:=kvF c++rest) (by rw [hd];simp) (by simp [ha];omega) rfl
 have e3:((d.getD at_ 0).toNat:Int)=c.kind:=by
  have:d.getD at_ 0=u8I c.kind:=by rw [hd,List.getD,←ha];simp
  rw [this];unfold u8I;rw [UInt8.toNat_ofNat'];omega
 unfold readK;rw [h1];simp only;rw [if_neg (by omega),if_neg (by simp),if_neg (by omega),e2,e3,←hk,zCB (pre:=pr++(u8I c.kind::(zR r.length++r))) (rest:=rest) hc hP (by rw [hd];simp) (by simp [ha];omega) rfl]
 simp;omega
theorem sD {P:Nat} {b d:List UInt8} {kind:Int} {pre:List UInt8} {s:Nat} (hP:P≤65536) (hs:pre.length=s):∀(l:List PC) (i a:Nat) (pr rest spr srest:List UInt8),(∀c∈l,OkC P c)→
 d=pr++(zN kind s i l++rest)→pr.length=a→b=spr++(yH kind s a i l++srest)→spr.length=6+s+2*i→d.length≤65536→
 (∀(j:Nat) (hj:j<l.length),l[j].key=(if kind=3∧i+j=0 then [] else pre)++yI kind (i+j) l[j].key s)→kB b d kind pre i a l.length=some l
 | [],_,_,_,_,_,_,_,_,_,_,_,_,_=>rfl
 |c::r,i,a,pr,rest,spr,srest,hl,hd,ha,hb,hsp,hdl,hk=>by
  have e0:zL b (6+pre.length+2*i) 2=a:=by
   refine jF (pre:=spr) (rest:=yH kind s (a+(pcF kind i c s).length) (i+1) r++srest) (by rw [hb];simp [yH]) (by rw [hs];exact hsp) ?_
   show a<65536
   have:a+(pcF kind i c s).length≤d.length:=by rw [hd];simp [zN];omega
   have:0<(pcF kind i c s).length:=by simp [pcF]
   omega
  have e1:=tV (d:=d) (pr:=pr) (rest:=zN kind s (i+1) r++rest) (pre:=pre) (at_:=a) (i:=i) (kind:=kind) (s:=s) (hl c (by simp)) hP (by rw [hd];simp [zN]) ha (by have:=hk 0 (by simp);simpa using this)
  have e2:=sD (b:=b) (d:=d) (kind:=kind) (pre:=pre) hP hs r (i+1) (a+(pcF kind i c s).length) (pr++pcF kind i c s) rest (spr++zI a 2) srest (fun x hx=>hl x (by simp [hx]))
   (by rw [hd];simp [zN]) (by simp [ha]) (by rw [hb];simp [yH]) (by simp [hsp,zE];omega) hdl (fun j hj=>by
    have:=hk (j+1) (by simpa using hj)
    simp only [List.getElem_cons_succ] at this
    rw [show i+1+j=i+(j+1) by omega];exact this)
  rw [List.length_cons,kB,if_neg (by simp [e0]),e1]
  show (kB b d kind pre (i+1) (a+(pcF kind i c s).length) r.length).map (c:: ·)=_
  rw [e2];rfl
theorem oQ {kind:Int} {l:List PC} {P:Nat} (hP:P≤65536) (hk:zO kind=true) (h:kQ kind l P=0):
 cP (x9 kind l P)=some l∧vD (x9 kind l P)=kind∧(x9 kind l P).getD 1 0=2:=by
 obtain ⟨h1,h2⟩:=qH.1 h;have hok:∀c∈l,OkC P c:=fun c hc=>xY (qE h1 c hc);have hz:zS kind l=10+zD kind l+2*l.length+(zN kind (zD kind l) 0 l).length:=rfl;have hL:=q9 (kind:=kind) h2;have hkd:kind=2∨kind=3:=of_decide_eq_true hk;have hB:x9 kind l P=(u8I kind::2::(zI l.length 2++(zI (zD kind l) 2++(xE kind l++(yH kind (zD kind l) (6+zD kind l+2*l.length) 0 l++(zN kind (zD kind l) 0 l++List.replicate (P-zS kind l) 0))))))++zI (jQ (vT kind l P)) 4:=rfl
 have hT:(x9 kind l P).take ((x9 kind l P).length-4)=vT kind l P:=by
  rw [hL]
  show (vT kind l P++_).take _=_
  rw [List.take_left' (kW h2)]
 have e1:zL (x9 kind l P) 2 2=l.length:=by
  refine jF (pre:= [u8I kind,2]) (rest:=(zI (zD kind l) 2++(xE kind l++(yH kind (zD kind l) (6+zD kind l+2*l.length) 0 l++(zN kind (zD kind l) 0 l++List.replicate (P-zS kind l) 0))))++zI (jQ (vT kind l P)) 4) (by rw [hB];simp) rfl (by show _<65536;omega)
 have e2:zL (x9 kind l P) 4 2=zD kind l:=by
  refine jF (pre:=u8I kind::2::zI l.length 2) (rest:=(xE kind l++(yH kind (zD kind l) (6+zD kind l+2*l.length) 0 l++(zN kind (zD kind l) 0 l++List.replicate (P-zS kind l) 0)))++zI (jQ (vT kind l P)) 4) (by rw [hB];simp) (by simp [zE]) (by show _<65536;omega)
 have e3:tG (x9 kind l P)=xE kind l:=by
  unfold tG;rw [e2];refine bR (pre:=u8I kind::2::(zI l.length 2++zI (zD kind l) 2)) (rest:=(yH kind (zD kind l) (6+zD kind l+2*l.length) 0 l++(zN kind (zD kind l) 0 l++List.replicate (P-zS kind l) 0))++zI (jQ (vT kind l P)) 4) (by rw [hB];simp) (by simp [zE]) (yQ kind l)
 have e4:vD (x9 kind l P)=kind:=by
  unfold vD;rw [hB];simp only [List.cons_append,List.getD_cons_zero];unfold u8I;rw [UInt8.toNat_ofNat'];omega
 refine ⟨?_,e4,by rw [hB];rfl⟩;unfold cP;rw [e1,e2,e3,e4,hT,if_neg (by omega)]
 refine sD (P:=P) hP (yQ kind l) l 0 _ (u8I kind::2::(zI l.length 2++(zI (zD kind l) 2++(xE kind l++yH kind (zD kind l) (6+zD kind l+2*l.length) 0 l)))) (List.replicate (P-zS kind l) 0)
  (u8I kind::2::(zI l.length 2++(zI (zD kind l) 2++xE kind l))) ((zN kind (zD kind l) 0 l++List.replicate (P-zS kind l) 0)++zI (jQ (vT kind l P)) 4) hok ?_ ?_ ?_ ?_ ?_ ?_
 ·show vT kind l P=_
  unfold vT;simp
 ·simp only [List.length_cons,List.length_append,zE,yQ,vA];omega
 ·rw [hB];simp
 ·simp only [List.length_cons,List.length_append,zE,yQ];omega
 ·rw [kW h2];omega
 ·intro j hj;rw [Nat.zero_add];unfold yI
  by_cases hn:kind=3∧j=0
  ·rw [if_pos hn,if_pos hn];rfl
  ·rw [if_neg hn,if_neg hn];exact (xS hj hn).2.1
def jV (b:List UInt8) (kind:Int) (l:List PC):Prop:=zT (b.length:Int)=true∧zO kind=true∧kQ kind l b.length=0∧x9 kind l b.length=b
theorem fE {b:List UInt8} {kind:Int} {l:List PC} (h:jV b kind l):cP b=some l∧vD b=kind∧b.getD 1 0=2:=by
 obtain ⟨h1,h2,h3,h4⟩:=h;have hP:=(zZ h1).2
 have:=oQ (P:=b.length) (by omega) h2 h3
 rw [h4] at this;exact this
theorem zJL {kind:Int} {i pre P:Nat} {c:PC} (hc:OkC P c) (hP:P≤65536) (hP2:512≤P):(pcF kind i c pre).length+(c.key.length-(yI kind i c.key pre).length)≤5+P/8+P/16*3:=by
 have hrl:(yI kind i c.key pre).length≤c.key.length:=by unfold yI;split<;>simp
 have hk0:=hc.k0;have u1:(zR (yI kind i c.key pre).length).length≤2:=kI 1 _ (by show _<16384;omega);unfold pcF;simp only [List.length_cons,List.length_append];unfold kvF
 by_cases h1:c.kind=1
 ·obtain ⟨hv,_,_⟩:=hc.v0 h1;have u2:(zR c.val.length).length≤2:=kI 1 _ (by show _<16384;omega);rw [if_pos h1,List.length_append];omega
 ·obtain ⟨hv,hp0,hp1,hc0,hc1⟩:=hc.v1 h1;have u2:(zR (xZ c.page)).length≤3:=kI 2 _ (by rw [dJ hp0 (by omega)];show _<2097152;omega);have u3:(zR (xZ c.count)).length≤5:=kI 4 _ (by rw [dJ hc0 (by omega)];show _<34359738368;omega);rw [if_neg h1,List.length_append];omega
theorem sN {P:Nat} {c:PC} (h:zQ 3 P c=true):c.kind=3:=by
 unfold zQ at h
 split at h
 ·cases h
 ·rw [if_pos rfl] at h;exact (of_decide_eq_true h).1
theorem zG2 {i pre P:Nat} {c:PC} (hc:OkC P c) (h3:c.kind=3) (hP:P≤65536) (kind:Int):(pcF kind i c pre).length≤11+P/8:=by
 have hrl:(yI kind i c.key pre).length≤c.key.length:=by unfold yI;split<;>simp
 have hk0:=hc.k0;have u1:(zR (yI kind i c.key pre).length).length≤2:=kI 1 _ (by show _<16384;omega)
 have h1:c.kind≠1:=by omega
 obtain ⟨hv,hp0,hp1,hc0,hc1⟩:=hc.v1 h1;have u2:(zR (xZ c.page)).length≤3:=kI 2 _ (by rw [dJ hp0 (by omega)];show _<2097152;omega);have u3:(zR (xZ c.count)).length≤5:=kI 4 _ (by rw [dJ hc0 (by omega)];show _<34359738368;omega);unfold pcF;simp only [List.length_cons,List.length_append];unfold kvF;rw [if_neg h1,List.length_append];omega
theorem zC4 {kind:Int} {l:List PC} {P:Nat} (hP:P≤65536) (hP2:512≤P) (h16:P%16=0) (hm:∀c∈l,zQ kind P c=true) (h3:l.length≤3):zS kind l≤P:=by
 have hz:zS kind l=10+zD kind l+2*l.length+(zN kind (zD kind l) 0 l).length:=rfl;have hok:∀c∈l,OkC P c:=fun c hc=>xY (hm c hc)
 have hrs:∀(j:Nat) (hj:j<l.length),¬(kind=3∧j=0)→(yI kind j l[j].key (zD kind l)).length+zD kind l=l[j].key.length:=fun j hj hn=>by
  have:=(xS hj hn).1
  unfold yI;rw [if_neg hn,List.length_drop];omega
 by_cases hk:kind=3
 ·subst hk;have hb:∀(j:Nat) (hj:j<l.length),(pcF 3 j l[j] (zD 3 l)).length≤11+P/8:=fun j hj=>zG2 (hok _ (List.getElem_mem hj)) (sN (hm _ (List.getElem_mem hj))) hP 3
  have hs:zD 3 l≤P/8:=by
   rcases Nat.eq_zero_or_pos (zD 3 l) with h|h
   ·omega
   ·obtain ⟨i,hi,hn⟩:=jN h;have h1:=(xS hi hn).1;have h2:=(hok _ (List.getElem_mem hi)).k0;omega
  rw [hz];generalize zD 3 l=s at*
  match l,h3 with
  | [],_=>simp [zN];omega
  | [a],_=>
   have h0:=hb 0 (by simp);simp only [List.getElem_cons_zero] at h0;simp only [zN,List.length_append,List.length_nil,List.length_cons,Nat.zero_add];omega
  | [a,b],_=>
   have h0:=hb 0 (by simp);have h1:=hb 1 (by simp);simp only [List.getElem_cons_zero,List.getElem_cons_succ] at h0 h1;simp only [zN,List.length_append,List.length_nil,List.length_cons,Nat.zero_add,Nat.reduceAdd];omega
  | [a,b,c],_=>
   have h0:=hb 0 (by simp);have h1:=hb 1 (by simp);have h2:=hb 2 (by simp);simp only [List.getElem_cons_zero,List.getElem_cons_succ] at h0 h1 h2;simp only [zN,List.length_append,List.length_nil,List.length_cons,Nat.zero_add,Nat.reduceAdd];omega
 ·have hb:∀(j:Nat) (hj:j<l.length),(pcF kind j l[j] (zD kind l)).length+zD kind l≤5+P/8+P/16*3:=fun j hj=>by
   have h1:=zJL (kind:=kind) (i:=j) (pre:=zD kind l) (hok _ (List.getElem_mem hj)) hP hP2;have h2:=hrs j hj (fun e=>hk e.1);omega
  have hs0:l= []→zD kind l=0:=fun e=>by subst e;unfold zD xL;simp [vL]
  rw [hz];generalize zD kind l=s at*
  match l,h3 with
  | [],_=>have:=hs0 rfl;simp [zN];omega
  | [a],_=>
   have h0:=hb 0 (by simp);simp only [List.getElem_cons_zero] at h0;simp only [zN,List.length_append,List.length_nil,List.length_cons,Nat.zero_add];omega
  | [a,b],_=>
   have h0:=hb 0 (by simp);have h1:=hb 1 (by simp);simp only [List.getElem_cons_zero,List.getElem_cons_succ] at h0 h1;simp only [zN,List.length_append,List.length_nil,List.length_cons,Nat.zero_add,Nat.reduceAdd];omega
  | [a,b,c],_=>
   have h0:=hb 0 (by simp);have h1:=hb 1 (by simp);have h2:=hb 2 (by simp);simp only [List.getElem_cons_zero,List.getElem_cons_succ] at h0 h1 h2;simp only [zN,List.length_append,List.length_nil,List.length_cons,Nat.zero_add,Nat.reduceAdd];omega
end Go.Proofs.YtfcnkpofcekmgaaGreat
namespace Go.Proofs.YtfcnkpofcekmgaaGreat
structure KP where
 l:List PC
 pre:List UInt8
 waste:Nat
def vF (kind:Int) (s:KP):Nat:=z5 kind s.l s.pre.length
def jI (kind:Int) (l:List PC):KP:=⟨l,xE kind l,0⟩
def jG (key pre:List UInt8):Bool:=decide (pre.length≤key.length)&&(key.take pre.length==pre)
def k8 (kind:Int) (P:Nat) (l:List PC) (i gone:Nat) (c:PC):Int:=
 if zQ kind P c=false then 62
 else if 0≤jB l i c∨0≤yY l (i+gone) c then 63
 else if P<zS kind (zX l i gone c) then 61 else 0
def yR (kind:Int) (P:Nat) (l:List PC) (i:Int) (gone:Nat) (c:PC):Int:=if i<0∨(l.length:Int)-gone<i then 64 else k8 kind P l i.toNat gone c
def bL:PC:=⟨[],0,[],0,0⟩
def dN (kind:Int) (s:KP) (i:Nat):Nat:=(pcF kind i (s.l.getD i bL) s.pre.length).length
def vZ (kind:Int) (i:Nat):Bool:=decide (kind=3∧i=0)
def xI (kind:Int) (pre:List UInt8) (i gone:Nat) (c:PC):Bool:=if gone=0 then vZ kind i|| !jG c.key pre else !vZ kind i&& !jG c.key pre
def cR (kind:Int) (s:KP) (i gone:Nat):Nat:=s.waste+(if gone=0 then 0 else dN kind s i)
def xU (kind:Int) (P:Nat) (pre:List UInt8) (l:List PC) (waste:Nat) (anew:Bool):KP:=
 if (anew||decide (P<z5 kind l pre.length+waste))=true then jI kind l else ⟨l,pre,waste⟩
def pW (kind:Int) (P:Nat) (s:KP) (i gone:Nat) (c:PC):KP:=xU kind P s.pre (zX s.l i gone c) (cR kind s i gone) (xI kind s.pre i gone c)
def jC (kind:Int) (P:Nat) (s:KP) (i:Int) (gone:Nat) (c:PC):KP:=if yR kind P s.l i gone c=0 then pW kind P s i.toNat gone c else s
def vW (kind:Int) (P:Nat) (l:List PC) (i:Int):Int:=
 if i<0∨(l.length:Int)≤i then 64 else if kind=3∧i=0∧P<zS kind (l.take i.toNat++l.drop (i.toNat+1)) then 61 else 0
def wN (kind:Int) (s:KP) (i:Nat):KP:=
 if kind=3∧i=0∨s.l.take i++s.l.drop (i+1)= [] then jI kind (s.l.take i++s.l.drop (i+1)) else ⟨s.l.take i++s.l.drop (i+1),s.pre,s.waste+dN kind s i⟩
def vY (kind:Int) (P:Nat) (s:KP) (i:Int):KP:=if vW kind P s.l i=0 then wN kind s i.toNat else s
def PreOk (kind:Int) (l:List PC) (pre:List UInt8):Prop:=∀j (hj:j<l.length),¬(kind=3∧j=0)→jG l[j].key pre=true
structure KInv (kind:Int) (P:Nat) (s:KP):Prop where
 rise:Rising s.l
 may:∀c∈s.l,zQ kind P c=true
 size:zS kind s.l≤P
 pre:PreOk kind s.l s.pre
 room:vF kind s+s.waste≤P
theorem jH {key pre:List UInt8}:jG key pre=true↔pre.length≤key.length∧key.take pre.length=pre:=by
 unfold jG;rw [Bool.and_eq_true,decide_eq_true_iff,beq_iff_eq]
theorem lA {kind:Int} {l:List PC}:PreOk kind l (xE kind l):=fun j hj hn=>by
 obtain ⟨h1,h2,h3⟩:=xS hj hn;refine jH.2 ⟨by omega,?_⟩;rw [h2,List.take_left]
theorem bS (kind:Int) (l:List PC):vF kind (jI kind l)=zS kind l:=by
 unfold vF jI zS;simp only [yQ]
theorem mZ {kind:Int} {P:Nat} {l:List PC} (h1:Rising l) (h2:∀c∈l,zQ kind P c=true) (h3:zS kind l≤P):KInv kind P (jI kind l):=
 ⟨h1,h2,h3,lA,by rw [bS];show zS kind l+0≤P;omega⟩
theorem zBA:∀{a b p:List UInt8},a.take p.length=p→b.take p.length=p→p.length≤yU a b
 |_,_,[],_,_=>by simp
 | [],_,_::_,h,_=>by simp at h
 |_::_,[],_::_,_,h=>by simp at h
 |x::a,y::b,z::p,h1,h2=>by
  simp only [List.length_cons,List.take_succ_cons,List.cons.injEq] at h1 h2
  have:=zBA h1.2 h2.2
  unfold yU;rw [if_pos (h1.1.trans h2.1.symm)]
  simp;omega
theorem zD2 {ks:List (List UInt8)} {p:List UInt8} (h0:ks≠ []) (h:∀x∈ks,jG x p=true):p.length≤vL ks:=by
 cases ks with
 |nil=>exact absurd rfl h0
 |cons t r=>
  have ht:=jH.1 (h t (by simp))
  show p.length≤r.foldl (fun n x=>min n (yU t x)) t.length
  have key:∀(r:List (List UInt8)) (m:Nat),p.length≤m→(∀x∈r,p.length≤yU t x)→p.length≤r.foldl (fun n x=>min n (yU t x)) m:=by
   intro r
   induction r with
   |nil=>intro m hm _;exact hm
   |cons y s ih=>intro m hm hy;exact ih _ (Nat.le_min.2 ⟨hm,hy y (by simp)⟩) (fun x hx=>hy x (by simp [hx]))
  refine key r _ ht.1 (fun x hx=> ?_);have hx':=jH.1 (h x (by simp [hx]));exact zBA ht.2 hx'.2
theorem zDB {kind:Int} {l:List PC} {k:List UInt8} (h:k∈xL kind l):∃j,∃hj:j<l.length,¬(kind=3∧j=0)∧l[j].key=k:=by
 unfold xL at h;obtain ⟨c,hc,rfl⟩:=List.mem_map.1 h
 by_cases hk:kind=3
 ·rw [if_pos hk] at hc;obtain ⟨j,hj,rfl⟩:=List.getElem_of_mem hc;rw [List.length_drop] at hj;refine ⟨1+j,by omega,by omega,?_⟩;rw [List.getElem_drop]
 ·rw [if_neg hk] at hc;obtain ⟨j,hj,rfl⟩:=List.getElem_of_mem hc;exact ⟨j,hj,fun e=>hk e.1,rfl⟩
theorem zCI {kind:Int} {l:List PC} {pre:List UInt8} (hp:PreOk kind l pre) (h0:xL kind l≠ []):pre.length≤zD kind l:=
 zD2 h0 (fun k hk=>by obtain ⟨j,hj,hn,rfl⟩:=zDB hk;exact hp j hj hn)
theorem o8 (n:Nat):∀m,m≤n→(zR m).length≤(zR n).length:=by
 induction n using Nat.strongRecOn with
 |ind n ih=>
  intro m h
  by_cases hm:m<128
  ·rw [kL hm];exact vQ n
  ·rw [kM (n:=m) hm,kM (n:=n) (by omega)]
   have:=ih (n/128) (by omega) (m/128) (by omega)
   simp only [List.length_cons];omega
theorem zAI {m n:Nat} (h:m≤n):(zR m).length≤(zR n).length:=o8 n m h
theorem tK {kind:Int} {i:Nat} (h:kind=3∧i=0) (c:PC) (n m:Nat):pcF kind i c n=pcF kind i c m:=by
 unfold pcF yI;rw [if_pos h,if_pos h]
theorem zAS {kind:Int} {i:Nat} (h:¬(kind=3∧i=0)) (c:PC) {n s:Nat} (hn:n≤s) (hs:s≤c.key.length):(pcF kind i c s).length+(s-n)≤(pcF kind i c n).length:=by
 unfold pcF yI;rw [if_neg h,if_neg h];simp only [List.length_cons,List.length_append,List.length_drop]
 have:=zAI (show c.key.length-s≤c.key.length-n by omega)
 omega
theorem mM (kind:Int) {n s:Nat} (hn:n≤s):∀(l:List PC) (i:Nat),(∀j (hj:j<l.length),¬(kind=3∧i+j=0)→s≤l[j].key.length)→
 (zN kind s i l).length+(s-n)*(if kind=3∧i=0 then l.length-1 else l.length)≤(zN kind n i l).length
 | [],i,_=>by simp [zN]
 |c::r,i,h=>by
  have ih:=mM kind hn r (i+1) (fun j hj hn=>by
   have:=h (j+1) (by simpa using hj) (by omega)
   simpa using this)
  rw [if_neg (by omega)] at ih;simp only [zN,List.length_append,List.length_cons]
  by_cases hf:kind=3∧i=0
  ·rw [if_pos hf,tK hf c s n];simp only [Nat.add_sub_cancel];omega
  ·rw [if_neg hf,Nat.mul_add,Nat.mul_one];have h0:=h 0 (by simp) (by simpa using hf);simp only [List.getElem_cons_zero] at h0
   have:=zAS hf c hn h0
   omega
theorem zD0 {kind:Int} {l:List PC} {pre:List UInt8} (hp:PreOk kind l pre):zS kind l≤z5 kind l pre.length:=by
 by_cases h0:xL kind l= []
 ·have hs:zD kind l=0:=by unfold zD;rw [h0];rfl
  unfold zS;rw [hs]
  have hb:∀n,zN kind n 0 l=zN kind 0 0 l:=fun n=>by
   unfold xL at h0;rw [List.map_eq_nil_iff] at h0
   by_cases hk:kind=3
   ·rw [if_pos hk] at h0
    cases l with
    |nil=>rfl
    |cons c r=>
     have hr:r= []:=by simpa using h0
     subst hr;simp only [zN];rw [tK ⟨hk,rfl⟩ c n 0]
   ·rw [if_neg hk] at h0;subst h0;rfl
  unfold z5;rw [hb pre.length];omega
 ·have hge:=zCI hp h0;have hlen:∀j (hj:j<l.length),¬(kind=3∧0+j=0)→zD kind l≤l[j].key.length:=fun j hj hn=>(xS hj (by simpa using hn)).1;have hb:=mM kind hge l 0 hlen
  have hpos:1≤(if kind=3∧(0:Nat)=0 then l.length-1 else l.length):=by
   unfold xL at h0
   by_cases hk:kind=3
   ·rw [if_pos hk] at h0;rw [if_pos ⟨hk,rfl⟩]
    have:(l.drop 1)≠ []:=fun e=>h0 (by rw [e];rfl)
    have:=List.length_pos_iff.2 this
    rw [List.length_drop] at this;omega
   ·rw [if_neg hk] at h0;rw [if_neg (fun e=>hk e.1)]
    have:l≠ []:=fun e=>h0 (by rw [e];rfl)
    exact List.length_pos_iff.2 this
  have hm:=Nat.mul_le_mul_left (zD kind l-pre.length) hpos;unfold zS z5;omega
theorem pD {kind:Int} {n i j:Nat} (h:kind=3→0<i∧0<j):∀(l:List PC),zN kind n i l=zN kind n j l
 | []=>rfl
 |c::r=>by
  simp only [zN];rw [pD (kind:=kind) (n:=n) (i:=i+1) (j:=j+1) (fun h'=>by omega) r]
  congr 1
  unfold pcF yI
  by_cases hk:kind=3
  ·obtain ⟨h1,h2⟩:=h hk;rw [if_neg (by omega),if_neg (by omega)]
  ·rw [if_neg (fun e=>hk e.1),if_neg (fun e=>hk e.1)]
theorem nV {kind:Int} {l:List PC} {i n:Nat} (hi:i<l.length) (hn:¬(kind=3∧i=0)):z5 kind (l.take i++l.drop (i+1)) n+(2+(pcF kind i l[i] n).length)=z5 kind l n:=by
 have e:l=l.take i++(l[i]::l.drop (i+1)):=by rw [←List.drop_eq_getElem_cons hi,List.take_append_drop]
 have e1:zN kind n 0 l=zN kind n 0 (l.take i)++(pcF kind i l[i] n++zN kind n (i+1) (l.drop (i+1))):=by
  have h1:=congrArg (zN kind n 0) e;rw [h1,xN]
  have h2:(l.take i).length=i:=by rw [List.length_take];omega
  rw [h2,Nat.zero_add];rfl
 have e2:zN kind n 0 (l.take i++l.drop (i+1))=zN kind n 0 (l.take i)++zN kind n (i+1) (l.drop (i+1)):=by
  rw [xN]
  have h2:(l.take i).length=i:=by rw [List.length_take];omega
  rw [h2,Nat.zero_add,pD (i:=i) (j:=i+1) (fun hk=>by omega)]
 unfold z5;rw [e1,e2];simp only [List.length_append,List.length_take,List.length_drop];omega
theorem oB {l:List PC} (h:Rising l) (i:Nat):Rising (l.take i++l.drop (i+1)):=by
 have e:l.take i++l.drop (i+1)=l.eraseIdx i:=(List.eraseIdx_eq_take_drop_succ l i).symm;rw [e];exact h.sublist (List.eraseIdx_sublist _ _)
theorem zBN {l:List PC} {i j:Nat} {c:PC} (h:c∈l.take i++l.drop j):c∈l:=by
 rcases List.mem_append.1 h with h|h
 ·exact List.mem_of_mem_take h
 ·exact List.mem_of_mem_drop h
theorem zHZ {l:List PC} {i j:Nat} (hi:i<l.length) (hj:j<(l.take i++l.drop (i+1)).length):∃k,∃hk:k<l.length,(l.take i++l.drop (i+1))[j]=l[k]∧(k=0→j=0)∧(0<i→k=0∨0<j):=by
 have hl:(l.take i).length=i:=by rw [List.length_take];omega
 by_cases h:j<i
 ·refine ⟨j,by omega,?_,id,fun _=>by omega⟩;rw [List.getElem_append_left (by omega),List.getElem_take]
 ·simp only [List.length_append,hl,List.length_drop] at hj;refine ⟨j+1,by omega,?_,by omega,fun h0=> .inr (by omega)⟩;rw [List.getElem_append_right (by omega),List.getElem_drop]
  congr 1
  omega
theorem zBC {kind:Int} {l:List PC} {pre:List UInt8} (h:PreOk kind l pre) {i:Nat} (hi:i<l.length):PreOk kind (l.take i++l.drop (i+1)) pre:=fun j hj hn=>by
 obtain ⟨k,hk,e,h1,-⟩:=zHZ hi hj;rw [e];exact h k hk (fun e=>hn ⟨e.1,h1 e.2⟩)
theorem KInv.rem {kind:Int} {P:Nat} {s:KP} (h:KInv kind P s) (i:Int):KInv kind P (vY kind P s i):=by
 unfold vY vW
 by_cases hin:i<0∨(s.l.length:Int)≤i
 ·rw [if_pos hin,if_neg (by decide)];exact h
 ·rw [if_neg hin];obtain ⟨k,rfl⟩:∃k:Nat,i=(k:Int):=⟨i.toNat,by omega⟩
  have hk:k<s.l.length:=by omega
  rw [Int.toNat_natCast]
  by_cases hz:kind=3∧(k:Int)=0∧P<zS kind (s.l.take k++s.l.drop (k+1))
  ·rw [if_pos hz,if_neg (by decide)];exact h
  ·rw [if_neg hz,if_pos rfl];have hm:∀c∈s.l.take k++s.l.drop (k+1),zQ kind P c=true:=fun c hc=>h.may c (zBN hc)
   have hps:zS kind (s.l.take k++s.l.drop (k+1))≤P:=by
    by_cases hf:kind=3∧k=0
    ·omega
    ·have h1:=zD0 (zBC h.pre hk);have h2:=nV (kind:=kind) (n:=s.pre.length) hk hf;have h3:=h.room;unfold vF at h3;omega
   unfold wN
   split
   ·exact mZ (oB h.rise k) hm hps
   ·rename_i hf
    have hf':¬(kind=3∧k=0):=fun e=>hf (.inl e);refine ⟨oB h.rise k,hm,hps,zBC h.pre hk,?_⟩;have h2:=nV (kind:=kind) (n:=s.pre.length) hk hf';have h3:=h.room;unfold vF at h3⊢;unfold dN;simp only;rw [show s.l.getD k bL=s.l[k] by simp [List.getD,hk]];omega
theorem zA1 {l:List PC} {i gone:Nat} {c:PC} (hi:i+gone≤l.length) (hg:gone≤1) {j:Nat} (hj:j<(zX l i gone c).length):(j=i∧(zX l i gone c)[j]=c)∨∃k,∃hk:k<l.length,(zX l i gone c)[j]=l[k]∧(k=0→j=0∨(i=0∧gone=0)):=by
 have hl:(l.take i).length=i:=by rw [List.length_take];omega
 unfold zX at hj⊢;rcases Nat.lt_trichotomy j i with h|h|h
 ·right
  refine ⟨j,by omega,?_,by omega⟩;rw [List.getElem_append_left (by omega),List.getElem_take]
 ·left
  subst h;refine ⟨rfl,?_⟩;rw [List.getElem_append_right (by omega)];simp [hl]
 ·right
  simp only [List.length_append,hl,List.length_cons,List.length_drop] at hj;refine ⟨j-1+gone,by omega,?_,by omega⟩;rw [List.getElem_append_right (by omega),List.getElem_cons];rw [dif_neg (by omega),List.getElem_drop]
  congr 1
  omega
theorem r7 {l:List PC} {i gone:Nat} {c d:PC} (h:d∈zX l i gone c):d=c∨d∈l:=by
 unfold zX at h;rcases List.mem_append.1 h with h|h
 ·exact .inr (List.mem_of_mem_take h)
 ·rcases List.mem_cons.1 h with h|h
  ·exact .inl h
  ·exact .inr (List.mem_of_mem_drop h)
theorem dI {kind:Int} {P:Nat} {l:List PC} {i gone:Nat} {c:PC} (h:k8 kind P l i gone c=0):zQ kind P c=true∧¬0≤jB l i c∧¬0≤yY l (i+gone) c∧zS kind (zX l i gone c)≤P:=by
 unfold k8 at h
 split at h
 ·cases h
 ·rename_i hm
  split at h
  ·cases h
  ·rename_i ho
   split at h
   ·cases h
   ·rename_i hz
    exact ⟨by simpa using hm,fun e=>ho (.inl e),fun e=>ho (.inr e),by omega⟩
theorem zCD {kind:Int} {P:Nat} {l:List PC} {i gone:Nat} {c:PC} (hs:Rising l) (hi:i+gone≤l.length) (h:k8 kind P l i gone c=0):Rising (zX l i gone c):=by
 obtain ⟨-,h1,h2,-⟩:=dI h;refine (cL hs hi).2 ⟨fun h3=> ?_,fun h3=> ?_⟩
 ·unfold jB at h1;rw [dif_pos ⟨h3,by omega⟩] at h1;omega
 ·unfold yY at h2;rw [dif_pos h3] at h2;omega
theorem KInv.put {kind:Int} {P:Nat} {s:KP} (h:KInv kind P s) {i gone:Nat} {c:PC} (hi:i+gone≤s.l.length) (hg:gone≤1) (h0:k8 kind P s.l i gone c=0):KInv kind P (pW kind P s i gone c):=by
 obtain ⟨hm,-,-,hz⟩:=dI h0;have hr:=zCD h.rise hi h0
 have hm':∀d∈zX s.l i gone c,zQ kind P d=true:=fun d hd=>by
  rcases r7 hd with rfl|hd
  ·exact hm
  ·exact h.may d hd
 unfold pW xU
 by_cases hn:(xI kind s.pre i gone c||decide (P<z5 kind (zX s.l i gone c) s.pre.length+cR kind s i gone))=true
 ·rw [if_pos hn];exact mZ hr hm' hz
 ·rw [if_neg hn];rw [Bool.or_eq_true,not_or,decide_eq_true_iff] at hn;obtain ⟨hn1,hn2⟩:=hn;unfold xI vZ at hn1;refine ⟨hr,hm',hz,fun j hj hnf=> ?_,?_⟩
  ·rcases zA1 hi hg hj with ⟨rfl,e⟩|⟨k,hk,e,hk0⟩
   ·rw [e]
    by_cases hg0:gone=0
    ·rw [if_pos hg0,Bool.or_eq_true,not_or] at hn1
     simpa using hn1.2
    ·rw [if_neg hg0] at hn1;have h1:decide (kind=3∧j=0)=false:=decide_eq_false hnf;rw [h1] at hn1
     simpa using hn1
   ·rw [e];refine h.pre k hk (fun e2=> ?_);rcases hk0 e2.2 with e3|⟨e3,e4⟩
    ·exact hnf ⟨e2.1,e3⟩
    ·rw [if_pos e4,Bool.or_eq_true,not_or,decide_eq_true_iff] at hn1;exact hn1.1 ⟨e2.1,e3⟩
  ·show z5 kind (zX s.l i gone c) s.pre.length+cR kind s i gone≤P
   omega
theorem KInv.ins {kind:Int} {P:Nat} {s:KP} (h:KInv kind P s) (i:Int) {gone:Nat} (hg:gone≤1) (c:PC):KInv kind P (jC kind P s i gone c):=by
 unfold jC
 by_cases hz:yR kind P s.l i gone c=0
 ·rw [if_pos hz];unfold yR at hz
  by_cases hin:i<0∨(s.l.length:Int)-gone<i
  ·rw [if_pos hin] at hz;cases hz
  ·rw [if_neg hin] at hz;exact h.put (by omega) hg hz
 ·rw [if_neg hz];exact h
theorem KInv.enc {kind:Int} {P:Nat} {s:KP} (h:KInv kind P s):kQ kind s.l P=0:=qH.2 ⟨nQ h.may (by simp) h.rise,h.size⟩
theorem wJ (kind:Int) (n:Nat):∀(l:List PC) (i:Nat),4*l.length≤(zN kind n i l).length+l.length
 | [],_=>by simp [zN]
 |c::r,i=>by
  have:=wJ kind n r (i+1)
  have h3:3≤(pcF kind i c n).length:=by
   unfold pcF kvF
   have:=vQ (yI kind i c.key n).length
   simp only [List.length_cons,List.length_append]
   split
   ·have:=vQ c.val.length;rw [List.length_append];omega
   ·have:=vQ (xZ c.page);rw [List.length_append];omega
  simp only [zN,List.length_append,List.length_cons];omega
theorem KInv.len {kind:Int} {P:Nat} {s:KP} (h:KInv kind P s) (hP:P≤65536):s.l.length≤16384:=by
 have h1:=h.size;have h2:=wJ kind (zD kind s.l) s.l 0;unfold zS z5 at h1;omega
theorem zHK {kind:Int} {P:Nat} (hP:512≤P):KInv kind P ⟨[],[],0⟩:=
 ⟨List.Pairwise.nil,by simp,by
  have:zS kind []=10:=by unfold zS z5 zD xL;simp [zN,vL]
  show zS kind []≤P
  omega,fun j hj=>by simp at hj,by unfold vF z5;simp only [zN,List.length_nil];omega⟩
theorem rU {b:List UInt8} {kind:Int} {l:List PC} (h:jV b kind l):KInv kind b.length (jI kind l):=by
 obtain ⟨-,-,h3,-⟩:=h;obtain ⟨h1,h2⟩:=qH.1 h3;exact mZ (gS h1).2 (fun c hc=>qE h1 c hc) h2
end Go.Proofs.YtfcnkpofcekmgaaGreat
namespace Go.Proofs.YtfcnkpofcekmgaaGreat
open Go.RowKit
structure KAt (w:World) (p:Nat) (kind:Int) (P:Nat) (u pv:Value) (used waste:Nat) (l:List CV):Prop where
 blk:OBlk w p 150 [.int .i64 kind,.int .i64 (P:Int),u,pv,.int .i64 (used:Int),.int .i64 (waste:Int)]
 rd:RdCs w u l
theorem yZ {w:World} {g:Nat} {T:TypeId} {a0 a1 a2 a3 a4 a5:Value} (h:OBlk w g T [a0,a1,a2,a3,a4,a5]):
 w.cell? ⟨g,0,none⟩=some a0∧w.cell? ⟨g,1,none⟩=some a1∧w.cell? ⟨g,2,none⟩=some a2∧w.cell? ⟨g,3,none⟩=some a3∧w.cell? ⟨g,4,none⟩=some a4∧w.cell? ⟨g,5,none⟩=some a5:=
 ⟨h.cell 0,h.cell 1,h.cell 2,h.cell 3,h.cell 4,h.cell 5⟩
theorem KAt.below {w w':World} {p:Nat} {kind:Int} {P:Nat} {u pv:Value} {used waste:Nat} {l:List CV} (h:KAt w p kind P u pv used waste l) (hb:Below w.heap.size w w'):KAt w' p kind P u pv used waste l:=
 ⟨h.blk.below hb h.blk.lt,h.rd.below hb⟩
theorem RdCs.key_at' {w:World} {A:Option Addr} {m c i:Nat} {l:List CV} (h:RdCs w (.slice A m c) l) (hi:i<l.length):
 ∃ad B b,A=some ad∧w.cell? (ad.add (i*5))=some (.slice B l[i].c.key.length b)∧RdB w (.slice B l[i].c.key.length b) l[i].c.key:=by
 obtain ⟨ad,rfl,c0,-⟩:=h.at_ hi;have hx:=(h.ok _ (List.getElem_mem hi)).k;obtain ⟨B,b,he,-⟩:=hx.form;rw [he] at hx c0;exact ⟨ad,B,b,rfl,c0,hx⟩
theorem zDO (u v:Value) (a b:List UInt8) (w:World) (hu:RdB w u a) (hv:RdB w v b):
 Calls Tryz.prog 130 #[u,v] w fun e w'=>e= .returned (.int .i64 (yD a b))∧w'=w:=(vE u v a b w hu hv).mono fun _ _ h=>⟨h.1,h.2.symm⟩
theorem zA9 (u v:Value) (a b:List UInt8) (w:World) (hu:RdB w u a) (hv:RdB w v b):
 Calls Tryz.prog 134 #[u,v] w fun e w'=>e= .returned (.bool (a==b))∧w'=w:=(nY u v a b w hu hv).mono fun _ _ h=>⟨h.1,h.2.symm⟩
theorem u5 (bp bl bk n:Nat) (p:Nat→Bool) (w:World) (hsz:n<4611686018427387904)
 (hf:∀m i,i<n→Calls Tryz.prog 232 #[.int .i64 (i:Int),.pointer (some ⟨bp,0,none⟩),.pointer (some ⟨bl,0,none⟩),.pointer (some ⟨bk,0,none⟩)] (w.drewN m) fun e w'=>e= .returned (.bool (p i))∧∃q,w'=(w.drewN m).drewN q)
 (hmono:∀a b,a≤b→b<n→p a=true→p b=true):
 Calls Tryz.prog 231 #[.int .i64 (n:Int),.func (.func 232) #[] #[.pointer (some ⟨bp,0,none⟩),.pointer (some ⟨bl,0,none⟩),.pointer (some ⟨bk,0,none⟩)]] w fun e w'=>
  ∃k:Nat,e= .returned (.int .i64 (k:Int))∧k≤n∧(∀t,t<k→p t=false)∧(∀t,k≤t→t<n→p t=true)∧∃q,w'=w.drewN q:=by
 have HF:=Lib.hid hf;have M:=Lib.hid hmono;clear hf hmono;go_enter Tryz.func231,Tryz.ntmps231
 go_wp2
 go_loopw [5,6] (fun s5 s6 wr=>∃(lo hi q:Nat),s5= .int .i64 (lo:Int)∧s6= .int .i64 (hi:Int)∧lo≤hi∧hi≤n∧wr=w.drewN q∧Hid ((∀t,t<lo→p t=false)∧(∀t,hi≤t→t<n→p t=true))) (fun s5 s6 _=>(intOf s6).toNat-(intOf s5).toNat)
 case atStart=>exact ⟨0,n,0,rfl,rfl,Nat.zero_le _,Nat.le_refl _,rfl,Lib.hid ⟨fun t ht=>absurd ht (Nat.not_lt_zero _),fun t h1 h2=>by omega⟩⟩
 case round=>
  obtain ⟨lo,hi,q,rfl,rfl,hlh,hin,rfl,I⟩:=hrel
  by_cases hlt:lo<hi
  ·have hc:=HF.out q ((lo+hi)/2) (by omega);rw [show (((lo+hi)/2:Nat):Int)=((lo:Int)+(hi:Int))/2 by omega] at hc
   cases hp:p ((lo+hi)/2)<;>rw [hp] at hc
   ·have HP:=Lib.hid hp;clear hp;go_wp2_with (first|(go_at_call 232;refine hc.mono ?_;rintro e w' ⟨rfl,nq,rfl⟩)|fail);go_roundw
    case rel=>exact ⟨(lo+hi)/2+1,hi,q+nq,by rw [show ((lo:Int)+(hi:Int))/2+1=(((lo+hi)/2+1:Nat):Int) by omega],rfl,by omega,hin,rfl,Lib.hid ⟨fun t ht=>(by
     cases h:p t with
     |false=>rfl
     |true=>have:=M.out t ((lo+hi)/2) (by omega) (by omega) h;rw [HP.out] at this;cases this),I.out.2⟩⟩
    case measure=>simp [intOf];omega
   ·have HP:=Lib.hid hp;clear hp;go_wp2_with (first|(go_at_call 232;refine hc.mono ?_;rintro e w' ⟨rfl,nq,rfl⟩)|fail);go_roundw
    case rel=>exact ⟨lo,(lo+hi)/2,q+nq,rfl,by rw [show ((lo:Int)+(hi:Int))/2=(((lo+hi)/2:Nat):Int) by omega],by omega,by omega,rfl,Lib.hid ⟨I.out.1,fun t ht htn=>M.out ((lo+hi)/2) t ht htn HP.out⟩⟩
    case measure=>simp [intOf];omega
  ·obtain rfl:hi=lo:=by omega
   go_wp2
   go_ret;exact ⟨hi,rfl,hin,I.out.1,I.out.2,q,rfl⟩
section
variable {w:World} {p:Nat} {kind:Int} {P:Nat} {u pv:Value} {used waste:Nat} {l:List CV}
theorem zG3 (h:KAt w p kind P u pv used waste l) (vk:Value) (key:List UInt8) (hk:RdB w vk key) (bp bl bk lo i:Nat) (hp:w.cell? ⟨bp,0,none⟩=some (.pointer (some ⟨p,0,none⟩))) (hl:w.cell? ⟨bl,0,none⟩=some (.int .i64 (lo:Int))) (hkc:w.cell? ⟨bk,0,none⟩=some vk) (hi:lo+i<l.length):
 Calls Tryz.prog 232 #[.int .i64 (i:Int),.pointer (some ⟨bp,0,none⟩),.pointer (some ⟨bl,0,none⟩),.pointer (some ⟨bk,0,none⟩)] w fun e w'=>e= .returned (.bool (decide (0≤yD l[lo+i].c.key key)))∧∃q,w'=w.drewN q:=by
 obtain ⟨A,c,rfl,hm,hc⟩:=h.rd.slice;obtain ⟨K,kc,rfl,hkm⟩:=hk.form;obtain ⟨b0,b1,b2,b3,b4,b5⟩:=yZ h.blk;obtain ⟨ad,B,b,rfl,q0,hkr⟩:=h.rd.key_at' hi;have hcmp:=fun m=>zDO _ _ _ _ (w.drewN m) (show RdB (w.drewN m) _ _ from hkr) (show RdB (w.drewN m) _ _ from hk);generalize yD l[lo+i].c.key key=oc at*;generalize l[lo+i].c.key=lk at*
 have e1:IntKind.i64.wrap ((lo:Int)+(i:Int))=(lo:Int)+(i:Int):=by rw [IntKind.wrap_i64];omega
 have e2:(0:Int)≤(lo:Int)+(i:Int):=by omega
 have e3:(lo:Int)+(i:Int)<(l.length:Int):=by omega
 have e4:((lo:Int)+(i:Int)).toNat=lo+i:=by omega
 go_enter Tryz.func232,Tryz.ntmps232;go_upto_region 1 with (fail);go_quiet ((go_at_call 130;exact Calls.quiet_of_same (hcmp _)));go_wp2_with fail;go_ret;exact ⟨rfl,_,rfl⟩
end
theorem aV {w:World} {p:Nat} {kind:Int} {P:Nat} {u pv:Value} {used waste:Nat} {l:List CV} (h:KAt w p kind P u pv used waste l) (hr:Rising (pcs l)) (hn:l.length<4611686018427387904) (vk:Value) (key:List UInt8) (hk:RdB w vk key) (lo hi:Nat) (hlo:lo≤z6 key (pcs l)) (hhi:z6 key (pcs l)≤hi) (hl:hi≤l.length):
 Calls Tryz.prog 226 #[.pointer (some ⟨p,0,none⟩),vk,.int .i64 (lo:Int),.int .i64 (hi:Int)] w fun e w'=>e= .returned (.tuple #[.int .i64 (z6 key (pcs l):Nat),.bool (isF key (pcs l))])∧Below w.heap.size w w':=by
 obtain ⟨A,c,rfl,hm,hc⟩:=h.rd.slice;obtain ⟨K,kc,rfl,hkm⟩:=hk.form
 have hA:Below w.heap.size w (((w.alloc (.cells #[.pointer (some ⟨p,0,none⟩)] 111)).alloc (.cells #[.slice K key.length kc] 41)).alloc (.cells #[.int .i64 (lo:Int)] 3)):=
  (((Below.refl _ _).alloc (Nat.le_refl _) _).alloc (by simp) _).alloc (by simp;omega) _
 have hO1:OBlk (((w.alloc (.cells #[.pointer (some ⟨p,0,none⟩)] 111)).alloc (.cells #[.slice K key.length kc] 41)).alloc (.cells #[.int .i64 (lo:Int)] 3)) w.heap.size 111 [.pointer (some ⟨p,0,none⟩)]:=((OBlk.new' w _ [.pointer (some ⟨p,0,none⟩)]).alloc _).alloc _
 have hO2:OBlk (((w.alloc (.cells #[.pointer (some ⟨p,0,none⟩)] 111)).alloc (.cells #[.slice K key.length kc] 41)).alloc (.cells #[.int .i64 (lo:Int)] 3)) (w.heap.size+1) 41 [.slice K key.length kc]:=by
  have:=(OBlk.new' (w.alloc (.cells #[.pointer (some ⟨p,0,none⟩)] 111)) 41 [.slice K key.length kc]).alloc (.cells #[.int .i64 (lo:Int)] 3)
  rw [World.size_alloc] at this;exact this
 have hO3:OBlk (((w.alloc (.cells #[.pointer (some ⟨p,0,none⟩)] 111)).alloc (.cells #[.slice K key.length kc] 41)).alloc (.cells #[.int .i64 (lo:Int)] 3)) (w.heap.size+1+1) 3 [.int .i64 (lo:Int)]:=by
  have:=OBlk.new' ((w.alloc (.cells #[.pointer (some ⟨p,0,none⟩)] 111)).alloc (.cells #[.slice K key.length kc] 41)) 3 [.int .i64 (lo:Int)]
  rw [World.size_alloc,World.size_alloc] at this;exact this
 have hK:=h.below hA;have hkk:=hk.below hA (Nat.le_refl _);have hle:=mF key (pcs l);have hJ:=fun j (hj:j<l.length) (e:j<z6 key (pcs l))=>mQ (key:=key) (show j<(pcs l).length by rw [zA];exact hj) e;have hG:=fun j (hj:j<l.length) (e:z6 key (pcs l)≤j)=>lF (key:=key) hr (show j<(pcs l).length by rw [zA];exact hj) e;have hisL:=fun hh=>eZ (key:=key) (l:=pcs l) hh;have hisG:=fun hh=>zE8 (key:=key) (l:=pcs l) hh;rw [zA] at hle;generalize z6 key (pcs l)=F at*;have HL:=Lib.hid hisL;have HG:=Lib.hid hisG;clear hisL hisG h hk;have hmf:∀(fn:Fn) (first cap:Array Value) (w:World),(Instr.makeFunc fn first cap).run Tryz.prog w= .ok (.func fn first cap) w:=fun _ _ _ _=>rfl;go_enter Tryz.func226,Tryz.ntmps226;go_upto_region 1 with (fail);generalize (((w.alloc (.cells #[.pointer (some ⟨p,0,none⟩)] 111)).alloc (.cells #[.slice K key.length kc] 41)).alloc (.cells #[.int .i64 (lo:Int)] 3))=w1 at*;have a1:w1.cell? ⟨w.heap.size,0,none⟩=some (.pointer (some ⟨p,0,none⟩)):=hO1.cell' (j:=0) rfl;have a2:w1.cell? ⟨w.heap.size+1,0,none⟩=some (.slice K key.length kc):=hO2.cell' (j:=0) rfl;have a3:w1.cell? ⟨w.heap.size+1+1,0,none⟩=some (.int .i64 (lo:Int)):=hO3.cell' (j:=0) rfl
 have hS:∀m,Calls Tryz.prog 231 #[.int .i64 ((hi:Int)-(lo:Int)),.func (.func 232) #[] #[.pointer (some ⟨w.heap.size,0,none⟩),.pointer (some ⟨w.heap.size+1+1,0,none⟩),.pointer (some ⟨w.heap.size+1,0,none⟩)]] (w1.drewN m) fun e w'=>e= .returned (.int .i64 (((F-lo:Nat)):Int))∧∃q,w'=(w1.drewN m).drewN q:=fun m=>by
  have h:=u5 w.heap.size (w.heap.size+1+1) (w.heap.size+1) (hi-lo) (fun i=>decide (F≤lo+i)) (w1.drewN m) (by omega) (fun q i hi'=>by
   have hb:=zK (zK (Below.refl w1.heap.size w1) m) q;have hc:=zG3 (hK.below hb) (.slice K key.length kc) key (hkk.below hb (Nat.le_refl _)) w.heap.size (w.heap.size+1+1) (w.heap.size+1) lo i a1 a3 a2 (by omega)
   have e:decide (0≤yD l[lo+i].c.key key)=decide (F≤lo+i):=by
    refine decide_eq_decide.2 ⟨fun h1=>Nat.le_of_not_lt fun h2=> ?_,fun h1=> ?_⟩
    ·have:=hJ (lo+i) (by omega) h2
     rw [zV (by omega)] at this;omega
    ·have:=hG (lo+i) (by omega) h1
     rw [zV (by omega)] at this;omega
   rw [e] at hc
   exact hc) (fun a b hab hb h=>by simp only [decide_eq_true_iff] at h⊢;omega)
  rw [show (((hi-lo:Nat)):Int)=(hi:Int)-(lo:Int) by omega] at h;refine h.mono ?_;rintro e w' ⟨k,rfl,hk,h1,h2,q,rfl⟩
  have:k=F-lo:=by
   rcases Nat.lt_trichotomy k (F-lo) with h3|h3|h3
   ·have:=h2 k (Nat.le_refl _) (by omega)
    simp only [decide_eq_true_iff] at this;omega
   ·exact h3
   ·have:=h1 (F-lo) h3
    simp only [decide_eq_false_iff_not] at this;omega
  subst this;exact ⟨rfl,q,rfl⟩
 have e1:IntKind.i64.wrap ((hi:Int)-(lo:Int))=(hi:Int)-(lo:Int):=by rw [IntKind.wrap_i64];omega
 have e2:(lo:Int)+(((F-lo:Nat)):Int)=(F:Int):=by omega
 have e3:IntKind.i64.wrap (F:Int)=(F:Int):=by rw [IntKind.wrap_i64];omega
 have HS:=Lib.hid hS;clear hS hO1 hO2 hO3
 go_cut [10] (fun s wx=>s= .int .i64 (F:Int)∧∃q,wx=w1.drewN q)
 case first=>
  go_region_held3 (fun w'=>w'.cell? ⟨w.heap.size+1+1,0,none⟩=some (.int .i64 (lo:Int)))
   (first|exact a3)
   (first
    |(go_at_call 231;refine (HS.out 1).mono ?_;rintro e w7 ⟨rfl,q7,rfl⟩)
    |fail)
  go_wp2_with fail;go_meet;exact ⟨rfl,_,rfl⟩
 case rest=>
  obtain ⟨rfl,q1,rfl⟩:=hcut;have hbq:=zK (Below.refl w1.heap.size w1) q1;have hA2:=zK hA q1;have hKq:=hK.below hbq;have hkq:=hkk.below hbq (Nat.le_refl _);have a1':(w1.drewN q1).cell? ⟨w.heap.size,0,none⟩=some (.pointer (some ⟨p,0,none⟩)):=a1;have a2':(w1.drewN q1).cell? ⟨w.heap.size+1,0,none⟩=some (.slice K key.length kc):=a2;obtain ⟨b0,b1,b2,b3,b4,b5⟩:=yZ hKq.blk;clear a1 a2 a3 HS hK hkk hA hbq;generalize w1.drewN q1=w2 at*
  by_cases hlt:F<l.length
  ·obtain ⟨ad,B,b,rfl,q0,hkr⟩:=hKq.rd.key_at' hlt;have heq:=fun m=>zA9 _ _ _ _ (w2.drewN m) (show RdB (w2.drewN m) _ _ from hkr) (show RdB (w2.drewN m) _ _ from hkq);have hfin:=HL.out (by rw [zA];exact hlt);simp only [zV hlt] at hfin;generalize hE:(l[F].c.key==key)=E at*;have HFIN:=Lib.hid hfin;generalize l[F].c.key=lk at*
   have i1:(F:Int)<(l.length:Int):=by omega
   have i2:(0:Int)≤(F:Int):=by omega
   clear hfin hE HL HG hJ hG;go_upto_region 2 with (fail);go_quiet ((go_at_call 134;exact Calls.quiet_of_same (heq _)));go_wp2_with fail;go_ret2;rw [HFIN.out];exact ⟨rfl,zK hA2 _⟩
  ·have hfin:=HG.out (by rw [zA];exact hlt);have HFIN:=Lib.hid hfin
   have i1:¬(F:Int)<(l.length:Int):=by omega
   clear hfin HL HG hJ hG;go_upto_region 2 with (fail);go_quiet (fail);go_wp2_with fail;go_ret2;rw [HFIN.out];exact ⟨rfl,zK hA2 _⟩
theorem zBU {w:World} {p:Nat} {kind:Int} {P:Nat} {u pv:Value} {used waste:Nat} {l:List CV} (h:KAt w p kind P u pv used waste l) (hr:Rising (pcs l)) (hn:l.length<4611686018427387904) (vk:Value) (key:List UInt8) (hk:RdB w vk key):
 Calls Tryz.prog 218 #[.pointer (some ⟨p,0,none⟩),vk] w fun e w'=>e= .returned (.tuple #[.int .i64 (z6 key (pcs l):Nat),.bool (isF key (pcs l))])∧Below w.heap.size w w':=by
 have hW:=aV h hr hn vk key hk 0 l.length (Nat.zero_le _) (by have:=mF key (pcs l);rw [zA] at this;exact this) (Nat.le_refl _);rw [show ((0:Nat):Int)=0 from rfl] at hW;obtain ⟨A,c,rfl,hm,hc⟩:=h.rd.slice;obtain ⟨b0,b1,b2,b3,b4,b5⟩:=yZ h.blk;generalize z6 key (pcs l)=F at*;generalize isF key (pcs l)=I at*;go_enter Tryz.func218,Tryz.ntmps218;go_wp2_with (first|(go_at_call 226;(with_reducible refine hW.mono ?_);rintro e w1 ⟨rfl,hw1⟩)|fail);go_ret2;exact ⟨rfl,hw1⟩
end Go.Proofs.YtfcnkpofcekmgaaGreat
