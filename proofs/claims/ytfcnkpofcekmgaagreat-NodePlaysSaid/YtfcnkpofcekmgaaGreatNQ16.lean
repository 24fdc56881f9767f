/- Texts joined. -/
import Derived.Test.YtfcnkpofcekmgaaGreatNQ15
set_option maxRecDepth 100000
set_option maxHeartbeats 64000000
namespace Go.Proofs.YtfcnkpofcekmgaaGreat
open Go.RowKit
theorem mI {kind:Int} {l:List PC} {i:Nat} (hi:i<l.length) (n:Nat):(pcF kind i l[i] n).length+n≤z5 kind l n:=by
 have e:l=l.take i++(l[i]::l.drop (i+1)):=by rw [←List.drop_eq_getElem_cons hi,List.take_append_drop]
 have h1:=congrArg (fun x=>(zN kind n 0 x).length) e;simp only [xN,zN,List.length_append] at h1
 have h2:(l.take i).length=i:=by rw [List.length_take];omega
 rw [h2,Nat.zero_add] at h1;unfold z5;omega
section
variable {w0 w:World} {L:List Ent} {p P used waste bx ug ng:Nat} {kind:Int} {U PV N B KA VA K2 V2:Option Addr} {uc pvc n3 c7 ka va kc vc:Nat} {l:List CV} {pre key val:List UInt8} {ck pg ct:Int}
def zCE (w:World) (ug k:Nat) (z:CV):Prop:=
 w.cell? ⟨ug,k*5,none⟩=some z.kv∧w.cell? ⟨ug,k*5+1,none⟩=some (.int .i64 z.c.kind)∧w.cell? ⟨ug,k*5+2,none⟩=some z.vv∧w.cell? ⟨ug,k*5+3,none⟩=some (.int .i64 z.c.page)∧w.cell? ⟨ug,k*5+4,none⟩=some (.int .i64 z.c.count)
theorem zKI {M:List Ent} (h:Sep w0 w (M++jM p P used waste bx kind (some ⟨ug,0,none⟩) PV KA VA uc pvc ka va l pre key val ck pg ct L)) (hr:RngC l) {k:Nat} (hk:k<l.length):zCE w ug k l[k]:=by
 obtain ⟨ad,hUad,q0,q1,q2,q3,q4⟩:=(rd7 h hr).at_ hk;obtain rfl:ad=⟨ug,0,none⟩:=(Option.some.inj hUad).symm;simp only [vH,Nat.zero_add] at q0 q1 q2 q3 q4;exact ⟨q0,q1,q2,q3,q4⟩
theorem zI8 (h:Sep w0 w ([zB (.slice K2 key.length kc) key,zB (.slice V2 val.length vc) val,zP 43 5 (.slice (some ⟨ng,0,none⟩) l.length n3) l.length (zF l)]++jM p P used waste bx kind U PV KA VA uc pvc ka va l pre key val ck pg ct L)) {k:Nat} (hk:k<l.length):
 Sep w0 (((((w.setCell ⟨ng,k*5,none⟩ (.slice K2 key.length kc)).setCell ⟨ng,k*5+1,none⟩ (.int .i64 ck)).setCell ⟨ng,k*5+2,none⟩ (.slice V2 val.length vc)).setCell ⟨ng,k*5+3,none⟩ (.int .i64 pg)).setCell ⟨ng,k*5+4,none⟩ (.int .i64 ct))
  ([zP 43 5 (.slice (some ⟨ng,0,none⟩) l.length n3) l.length (zF (l.take k++(⟨.slice K2 key.length kc,.slice V2 val.length vc,⟨key,ck,val,pg,ct⟩⟩:CV)::l.drop (k+1))),zB (.slice K2 key.length kc) key,zB (.slice V2 val.length vc) val]++jM p P used waste bx kind U PV KA VA uc pvc ka va l pre key val ck pg ct L):=by
 have hO:Own w 0 43 5 (.slice (some ⟨ng,0,none⟩) l.length n3) l.length (zF l):=h.of_mem (E:=zP _ _ _ _ _) (by simp);have hset:=hO.set5k hk ⟨.slice K2 key.length kc,.slice V2 val.length vc,⟨key,ck,val,pg,ct⟩⟩;rw [List.set_eq_take_append_cons_drop,if_pos hk] at hset;have h2:Sep w0 w (zP 43 5 (.slice (some ⟨ng,0,none⟩) l.length n3) l.length (zF l)::zB (.slice K2 key.length kc) key::zB (.slice V2 val.length vc) val::jM p P used waste bx kind U PV KA VA uc pvc ka va l pre key val ck pg ct L):=Sep.sw2 h;refine h2.upd (E':=zP _ _ _ _ _) ?_ hset (fun g hg=>⟨.inl hg,(Own.lt hset g hg).2⟩);have hF:∀k',some ng=some k'→(zP 43 5 (.slice (some ⟨ng,0,none⟩) l.length n3) l.length (zF l)).F k':=fun k' e=>e;exact (((((Turn.refl _ w).setCell _ _ (.inl (hF _ rfl))).setCell _ _ (.inl (hF _ rfl))).setCell _ _ (.inl (hF _ rfl))).setCell _ _ (.inl (hF _ rfl))).setCell _ _ (.inl (hF _ rfl))
end
theorem eF {l:List CV} {k:Nat} {y:CV} (hk:k<l.length) {E:Ent} (h:E∈zG (l.take k++y::l.drop (k+1))):E=zB y.kv y.c.key∨E=zB y.vv y.c.val∨E∈zG l:=by
 rw [xM,bB] at h;rw [qC l k,gY l hk];simp only [List.mem_append,List.mem_cons] at h⊢;rcases h with h|h|h|h
 ·exact .inr (.inr (.inl h))
 ·exact .inl h
 ·exact .inr (.inl h)
 ·exact .inr (.inr (.inr (.inr (.inr h))))
theorem zFS {w0 w:World} {L:List Ent} {p P:Nat} {kind:Int} {s:KP} (hS:PgK w0 w L p P kind s) (hk:KInv kind P s) (hkd:kind=2∨kind=3) (hP:P≤65536) (x:CV) (hx:XIn L x) (i:Int) (hi64:yE i):
 Calls Tryz.prog 223 #[.pointer (some ⟨p,0,none⟩),.int .i64 i,zJ x] w (bC w0 L p P kind (yR kind P s.l i 1 x.c) (jC kind P s i 1 x.c)):=by
 obtain ⟨u,pv,l,hpl,hr,hS⟩:=hS;obtain ⟨sl,pre,waste⟩:=s;simp only at hpl;subst hpl;have hlen:=hk.len hP;obtain ⟨hn1,hn2,hn3⟩:=hk.nums;simp only [zA] at hlen hn1 hn2 hn3;have hS0:=hS.pkOpen;have hS1:=hS0.alloc 43 [x.kv,.int .i64 x.c.kind,x.vv,.int .i64 x.c.page,.int .i64 x.c.count]
 have hxm:∀E∈L,E∈(z7 w.heap.size 43 [x.kv,.int .i64 x.c.kind,x.vv,.int .i64 x.c.page,.int .i64 x.c.count]::pkB p kind P u pv (vF kind ⟨pcs l,pre,waste⟩) waste::zP 43 5 u l.length (zF l)::zB pv pre::(zG l++L)):=fun E hE=>by simp [hE]
 have hx1:=hx.ok hS1 hxm;have hrd:=hS1.openRd (u:=u) (l:=l) (by simp) (fun E hE=>by simp [hE]) hr;obtain ⟨U,uc,rfl,hm,hc⟩:=hrd.slice;have hpw:=(show OwB _ 0 pv pre from hS1.tail.tail.tail.head);obtain ⟨PV,pvc,rfl⟩:=Own.slice hpw;obtain ⟨used,hus⟩:∃used,vF kind ⟨pcs l,pre,waste⟩=used:=⟨_,rfl⟩;have HUS:=Lib.hid hus;simp only [hus] at hS1 hxm hn1;have hbp:OBlk _ p 150 [.int .i64 kind,.int .i64 (P:Int),.slice U l.length uc,.slice PV pre.length pvc,.int .i64 (used:Int),.int .i64 (waste:Int)]:=hS1.tail.head;obtain ⟨b0,b1,b2,b3,b4,b5⟩:=yZ hbp
 have hfin:∀w',Sep w0 w' (pkB p kind P (.slice U l.length uc) (.slice PV pre.length pvc) used waste::zP 43 5 (.slice U l.length uc) l.length (zF l)::zB (.slice PV pre.length pvc) pre::(zG l++L))→PgK w0 w' L p P kind ⟨pcs l,pre,waste⟩:=fun w' h=>
  ⟨.slice U l.length uc,.slice PV pre.length pvc,l,rfl,hr,by rw [HUS.out];exact h.pkClose⟩
 have HF:=Lib.hid hfin;clear hus hpw hfin
 by_cases hin:i<0∨(l.length:Int)≤i
 ·have hz:yR kind P (pcs l) i 1 x.c=64:=if_pos (by rw [zA];omega);have hz2:jC kind P ⟨pcs l,pre,waste⟩ i 1 x.c=⟨pcs l,pre,waste⟩:=if_neg (by show ¬yR kind P (pcs l) i 1 x.c=0;rw [hz];decide)
  show Calls Tryz.prog _ _ w (bC w0 L p P kind (yR kind P (pcs l) i 1 x.c) _)
  rw [hz,hz2];have hS2:=hS1.tail;clear hz hz2 hS1 hx1 hrd hbp hxm hS hS0;unfold zJ;rcases hin with h|h
  ·go_enter Tryz.func223,Tryz.ntmps223;go_wp2_with fail;go_ret;exact ⟨rfl,HF.out _ hS2⟩
  ·have h':¬i<0:=by omega
   go_enter Tryz.func223,Tryz.ntmps223;go_wp2_with fail;go_ret;exact ⟨rfl,HF.out _ hS2⟩
 ·obtain ⟨k,rfl⟩:∃k:Nat,i=(k:Int):=⟨i.toNat,by omega⟩
  have hkl:k<l.length:=by omega
  have hkp:k<(pcs l).length:=by rw [zA];exact hkl
  obtain ⟨old,hold⟩:∃old,(pcF kind k l[k].c pre.length).length=old:=⟨_,rfl⟩
  have hgd:(pcs l).getD k bL=l[k].c:=by rw [←zV hkl];simp [List.getD,hkp]
  have hold2:dN kind ⟨pcs l,pre,waste⟩ k=old:=by unfold dN;rw [←hold];show (pcF kind k ((pcs l).getD k bL) pre.length).length=_;rw [hgd]
  have holdP:old≤P:=by
   have h1:=mI (kind:=kind) hkp pre.length;have h2:=hk.room;rw [zV hkl,hold] at h1;unfold vF at h2;simp only at h2;omega
  have hz:yR kind P (pcs l) (k:Int) 1 x.c=k8 kind P (pcs l) k 1 x.c:=by unfold yR;rw [if_neg (by rw [zA];omega)];rfl
  have hzs:k8 kind P (pcs l) k 1 x.c=0→jC kind P ⟨pcs l,pre,waste⟩ (k:Int) 1 x.c=xU kind P pre (zX (pcs l) k 1 x.c) (waste+old) (xI kind pre k 1 x.c):=fun e=>by
   unfold jC;rw [if_pos (by show yR kind P (pcs l) (k:Int) 1 x.c=0;rw [hz];exact e)];unfold pW cR;rw [if_neg (by decide)]
   show xU kind P pre (zX (pcs l) k 1 x.c) (waste+dN kind ⟨pcs l,pre,waste⟩ k) _=_
   rw [hold2];rfl
  have hzn:k8 kind P (pcs l) k 1 x.c≠0→jC kind P ⟨pcs l,pre,waste⟩ (k:Int) 1 x.c=⟨pcs l,pre,waste⟩:=fun e=>if_neg (by show ¬yR kind P (pcs l) (k:Int) 1 x.c=0;rw [hz];exact e)
  show Calls Tryz.prog _ _ w (bC w0 L p P kind (yR kind P (pcs l) (k:Int) 1 x.c) _)
  rw [hz];have hrf:=m0 (w:=w.alloc (.cells [x.kv,.int .i64 x.c.kind,x.vv,.int .i64 x.c.page,.int .i64 x.c.count].toArray 43)) ⟨hbp,hrd⟩ hkd hP x hx1 k (k+1) ((k:Int)-1) ((k:Int)+1) rfl (by omega) (by omega) (by omega)
  have hpt:k8 kind P (pcs l) k 1 x.c=if (if zQ kind P x.c=false then (62:Int) else if 0≤jB (pcs l) k x.c∨0≤yY (pcs l) (k+1) x.c then 63 else 0)=0 then (if P<zS kind (zX (pcs l) k 1 x.c) then 61 else 0) else (if zQ kind P x.c=false then 62 else if 0≤jB (pcs l) k x.c∨0≤yY (pcs l) (k+1) x.c then 63 else 0):=by
   unfold k8
   split
   ·rw [if_neg (by decide)]
   ·split
    ·rw [if_neg (by decide)]
    ·rw [if_pos rfl]
  have hmy:(if zQ kind P x.c=false then (62:Int) else if 0≤jB (pcs l) k x.c∨0≤yY (pcs l) (k+1) x.c then 63 else 0)=0→zQ kind P x.c=true:=fun e=>by
   split at e
   ·cases e
   ·rename_i h;simpa using h
  generalize (if zQ kind P x.c=false then (62:Int) else if 0≤jB (pcs l) k x.c∨0≤yY (pcs l) (k+1) x.c then 63 else 0)=Z at*
  have hbig:Z=0→xT (zX (pcs l) k 1 x.c)≤140737488355328:=fun e=>oD hk hP (hmy e);have hpw:xI kind pre k 1 x.c=false→PreOk kind (zX (pcs l) k 1 x.c) pre:=fun e=>mH hk.pre (by show k+1≤(pcs l).length;rw [zA];omega) (by omega) e;have han:xI kind pre k 1 x.c=(!vZ kind k&& !jG x.c.key pre):=rfl
  have hpcs:∀y:CV,y.c=x.c→pcs (l.take k++y::l.drop (k+1))=zX (pcs l) k 1 x.c:=fun y hy=>by
   have:=dE l k 1 y
   rw [hy] at this;exact this
  have hpk0:pre.length≤1000000:=by omega
  have hlen5:∀W,CV.ok W l[k]→Calls Tryz.prog 168 #[.int .i64 kind,.int .i64 (k:Int),zJ l[k],.int .i64 (pre.length:Int)] W fun e w'=>e= .returned (.int .i64 (old:Int))∧Below W.heap.size W w':=fun W hW=>by
   have h1:=qM (hk.ok l[k].c (by show l[k].c∈pcs l;rw [←zV hkl];exact List.getElem_mem hkp)) hP
   have:=f6 kind k l[k] pre.length W hW (fun hn=>by have:=(jH.1 (hk.pre k hkp hn)).1;rw [show (KP.l ⟨pcs l,pre,waste⟩)[k]=l[k].c from zV hkl] at this;exact this) (by omega)
   rw [hold] at this;exact this
  have hfin2:∀w',Sep w0 w' (pkB p kind P (.slice U l.length uc) (.slice PV pre.length pvc) used waste::zB (.slice PV pre.length pvc) pre::zP 43 5 (.slice U l.length uc) l.length (zF l)::(zG l++L))→PgK w0 w' L p P kind ⟨pcs l,pre,waste⟩:=fun w' h=>HF.out w' (h.perm ((List.Perm.swap _ _ _).cons _))
  have hChg:Z=0→∀(W:World) (B K2 V2:Option Addr) (c7 kc vc bx:Nat) (o1:List Value) (y:CV),y.c=x.c→y.kv= .slice K2 x.c.key.length kc→y.vv= .slice V2 x.c.val.length vc→
   Sep w0 W (zP 43 5 (.slice B l.length c7) l.length (zF (l.take k++y::l.drop (k+1)))::zB y.kv y.c.key::zB y.vv y.c.val::z7 bx 43 o1::pkB p kind P (.slice U l.length uc) (.slice PV pre.length pvc) used waste::zP 43 5 (.slice U l.length uc) l.length (zF l)::zB (.slice PV pre.length pvc) pre::(zG l++L))→
   Calls Tryz.prog 228 #[.pointer (some ⟨p,0,none⟩),.slice B l.length c7,.int .i64 (old:Int),.bool (xI kind pre k 1 x.c)] W (fun e w'=>bC w0 L p P kind (yR kind P (pcs l) (k:Int) 1 x.c) (jC kind P ⟨pcs l,pre,waste⟩ (k:Int) 1 x.c) e w'∧OBlk w' bx 43 o1):=fun hZ W B K2 V2 c7 kc vc bx o1 y hy hy1 hy2 h=>by
   have hlN:(l.take k++y::l.drop (k+1)).length=l.length:=by simp only [List.length_append,List.length_cons,List.length_take,List.length_drop];omega
   have hry:RngC (l.take k++y::l.drop (k+1)):=hr.with_ (y:=y) (by rw [hy];exact ⟨hx.r1,hx.r2,hx.r3⟩) k (k+1);have h2:Sep w0 W (pkB p kind P (.slice U l.length uc) (.slice PV pre.length pvc) used waste::zB (.slice PV pre.length pvc) pre::zP 43 5 (.slice B l.length c7) l.length (zF (l.take k++y::l.drop (k+1)))::zB y.kv y.c.key::zB y.vv y.c.val::z7 bx 43 o1::zP 43 5 (.slice U l.length uc) l.length (zF l)::(zG l++L)):=Sep.pick (L:= [_,_,_,_,_,_,_]) [4,6,0,1,2,3,5] (by decide) rfl h
   have hc:=zEO (E0:=z7 bx 43 o1) (by simp) (L:=L) (l':=l.take k++y::l.drop (k+1)) (sOld:=⟨pcs l,pre,waste⟩) old (old:Int) rfl (xI kind pre k 1 x.c) h2 (lU (by rw [hlN];exact List.mem_cons_self ..) (fun E hE=>by rcases eF hkl hE with rfl|rfl|h<;>simp [*]) hry) (hpcs y hy) hry (hbig hZ) (by omega) hpk0 hP hpw
    (fun w' h=>hfin2 w' (h.sub ((((((List.Sublist.refl (zP 43 5 (.slice U l.length uc) l.length (zF l)::(zG l++L))).cons _).cons _).cons _).cons _).cons_cons _|>.cons_cons _)))
    (fun w' pv' used' waste' pre' h=>by
     have h3:=h.sub (L':=pkB p kind P (.slice B l.length c7) pv' used' waste'::zB pv' pre'::zP 43 5 (.slice B l.length c7) l.length (zF (l.take k++y::l.drop (k+1)))::zB y.kv y.c.key::zB y.vv y.c.val::(zG l++L)) ((((((List.Sublist.refl (zG l++L)).cons _).cons _).cons_cons _).cons_cons _).cons_cons _|>.cons_cons _|>.cons_cons _);have h4:=Sep.csSet hlN hkl (Sep.push2b (Sep.pick (L:= [_,_,_,_,_]) [3,4,2,0,1] (by decide) rfl h3))
     exact Sep.pkShut h4.sw1)
   rw [hz,hpt,if_pos hZ]
   by_cases hzz:P<zS kind (zX (pcs l) k 1 x.c)
   ·rw [if_pos hzz] at hc⊢;rw [if_pos hzz] at hc;rw [hzn (by rw [hpt,if_pos hZ,if_pos hzz];decide)];exact hc
   ·rw [if_neg hzz] at hc⊢;rw [if_neg hzz] at hc;rw [hzs (by rw [hpt,if_pos hZ,if_neg hzz])];exact hc
  rw [←hz];have hzz:Z≠0→yR kind P (pcs l) (k:Int) 1 x.c=Z∧jC kind P ⟨pcs l,pre,waste⟩ (k:Int) 1 x.c=⟨pcs l,pre,waste⟩:=fun h=>⟨by rw [hz,hpt,if_neg h],hzn (by rw [hpt,if_neg h];exact h)⟩;generalize jC kind P ⟨pcs l,pre,waste⟩ (k:Int) 1 x.c=SS at*;generalize yR kind P (pcs l) (k:Int) 1 x.c=ZZ at*;generalize xI kind pre k 1 x.c=an at*;have HCH:=Lib.hid hChg;have HZZ:=Lib.hid hzz;have HX:=Lib.hid hx;clear hold2 hgd holdP hChg hpcs hzs hzn hx hpt hmy hbig hpw hzz hz hk hS hS0 hin hfin2
  have i1:¬(k:Int)<0:=by omega
  have i2:¬(l.length:Int)≤(k:Int):=by omega
  have i4:IntKind.i64.wrap ((k:Int)+1)=(k:Int)+1:=by rw [IntKind.wrap_i64];omega
  have i3:IntKind.i64.wrap ((k:Int)-1)=(k:Int)-1:=by rw [IntKind.wrap_i64];omega
  obtain ⟨KA,ka,VA,va,key,ck,val,pg,ct,rfl,-,-⟩:=CV.form hx1;simp only at hx1 hS1 hxm hrf han
  have HCH2:Hid (Z=0→∀(W:World) (B K2 V2:Option Addr) (c7 kc vc bx:Nat),Sep w0 W ([zP 43 5 (.slice B l.length c7) l.length (zF (l.take k++(⟨.slice K2 key.length kc,.slice V2 val.length vc,⟨key,ck,val,pg,ct⟩⟩:CV)::l.drop (k+1))),zB (.slice K2 key.length kc) key,zB (.slice V2 val.length vc) val]++jM p P used waste bx kind U PV KA VA uc pvc ka va l pre key val ck pg ct L)→
   Calls Tryz.prog 228 #[.pointer (some ⟨p,0,none⟩),.slice B l.length c7,.int .i64 (old:Int),.bool an] W (fun e w'=>bC w0 L p P kind ZZ SS e w'∧OBlk w' bx 43 [.slice KA key.length ka,.int .i64 ck,.slice VA val.length va,.int .i64 pg,.int .i64 ct])):=Lib.hid (fun hZ W B K2 V2 c7 kc vc bx h=>HCH.out hZ W B K2 V2 c7 kc vc bx _ ⟨.slice K2 key.length kc,.slice V2 val.length vc,⟨key,ck,val,pg,ct⟩⟩ rfl rfl rfl h)
  clear HCH;unfold zJ at hrf⊢;simp only at hrf⊢;go_enter Tryz.func223,Tryz.ntmps223
  go_upto_region 4 with (first
   |(go_at_call 227;(with_reducible refine hrf.mono ?_);rintro e w2 ⟨rfl,hw2⟩)
   |fail)
  have hS2:=hS1.below hw2;clear hrf hS1 hw2 hbp b0 b1 b2 b3 b4 b5 hx1 hrd hxm;obtain ⟨bx,hbx⟩:∃b,w.heap.size=b:=⟨_,rfl⟩;rw [hbx] at hS2⊢;clear hbx;have hS2:Sep w0 w2 ([]++jM p P used waste bx kind U PV KA VA uc pvc ka va l pre key val ck pg ct L):=hS2
  by_cases hZ:Z=0
  ·subst hZ;have HCH3:=Lib.hid (HCH2.out rfl);clear HCH2 HZZ;obtain ⟨⟨c0,c1,c2,c3,c4⟩,b0,b1,b2,b3,b4,b5⟩:=fQ hS2;obtain ⟨fk,hfk⟩:∃fk,vZ kind k=fk:=⟨_,rfl⟩;rw [hfk] at han;have HFK:=Lib.hid hfk;clear hfk;go_upto_region 6 with (fail)
   go_cut [8] (fun s wx=>s= .bool fk∧wx=w2)
   case first=>
    by_cases h3:kind=3
    ·have e1:(kind==3)=true:=by simp [h3]
     by_cases h0:k=0
     ·have e2:((k:Int)==0)=true:=by simp [h0]
      have e3:fk=true:=HFK.out.symm.trans (decide_eq_true ⟨h3,h0⟩);have E3:=Lib.hid e3;clear h3 h0 e3;go_wp2_with fail;go_meet;exact ⟨by rw [E3.out],rfl⟩
     ·have e2:((k:Int)==0)=false:=beq_eq_false_iff_ne.2 (by omega);have e3:fk=false:=HFK.out.symm.trans (decide_eq_false (fun h=>h0 h.2));have E3:=Lib.hid e3;clear h3 h0 e3;go_wp2_with fail;go_meet;exact ⟨by rw [E3.out],rfl⟩
    ·have e1:(kind==3)=false:=beq_eq_false_iff_ne.2 h3;have e3:fk=false:=HFK.out.symm.trans (decide_eq_false (fun h=>h3 h.1));have E3:=Lib.hid e3;clear h3 e3;go_wp2_with fail;go_meet;exact ⟨by rw [E3.out],rfl⟩
   case rest=>
    obtain ⟨rfl,rfl⟩:=hcut;have hCl:=aF (M:= []) hS2 hr (by omega);obtain ⟨⟨c0,c1,c2,c3,c4⟩,b0,b1,b2,b3,b4,b5⟩:=fQ (M:= []) hS2
    have hl1:l.length≤1000000:=by omega
    have HKL:=Lib.hid hkl
    have j1:(0:Int)≤(k:Int):=by omega
    have j2:(k:Int)<(l.length:Int):=by omega
    clear hS2 HF hlen hn1 hn2 hn3 hpk0 hkd hP hi64 i1 i2 i3 hm hc HFK
    go_upto_region 8 with (first
     |(go_at_call 229;refine hCl.mono ?_;rintro e w3 ⟨N3,n3,rfl,hA3⟩)
     |fail)
    obtain ⟨ng,rfl⟩:=Own.some5 (show Own w3 0 43 5 (.slice N3 l.length n3) l.length (zF l) from hA3.head) (by omega);have hzw:=(rd7 hA3 hr).ok _ (List.getElem_mem HKL.out);obtain ⟨ug,rfl⟩:=Own.some5 (show Own w3 0 43 5 (.slice U l.length uc) l.length (zF l) from hA3.of_mem (E:=zP _ _ _ _ _) (by simp [jM])) (by omega);have hfo:∀(W:World) (M:List Ent),Sep w0 W (M++jM p P used waste bx kind (some ⟨ug,0,none⟩) PV KA VA uc pvc ka va l pre key val ck pg ct L)→zCE W ug k l[k]:=fun W M h=>zKI h hr HKL.out;have hzok:∀(W:World) (M:List Ent),Sep w0 W (M++jM p P used waste bx kind (some ⟨ug,0,none⟩) PV KA VA uc pvc ka va l pre key val ck pg ct L)→CV.ok W l[k]:=fun W M h=>(rd7 h hr).ok _ (List.getElem_mem HKL.out);have hO:=zAQ hA3 HX.out;clear c0 c1 c2 c3 c4 b0 b1 b2 b3 b4 b5 hCl;obtain ⟨⟨c0,c1,c2,c3,c4⟩,b0,b1,b2,b3,b4,b5⟩:=fQ hA3;generalize l[k]=z at*;obtain ⟨ZK,zk,ZV,zv,zkey,zck,zval,zpg,zct,rfl,-,-⟩:=CV.form hzw;unfold zJ at hlen5;simp only at hlen5;have HLEN:=Lib.hid hlen5;clear hzw hlen5
    go_upto_region 9 with (first
     |(go_at_call 225;refine hO.mono ?_;rintro e w6 ⟨K2,kc,V2,vc,rfl,hA6⟩;clear c0 c1 c2 c3 c4 b0 b1 b2 b3 b4 b5;have hO6:Own w6 0 43 5 (.slice (some ⟨ng,0,none⟩) l.length n3) l.length (zF l):=hA6.tail.tail.head;obtain ⟨⟨_,r0⟩,⟨_,r1⟩,⟨_,r2⟩,⟨_,r3⟩,⟨_,r4⟩⟩:=hO6.cells5k HKL.out;obtain ⟨s0,s1,s2,s3,s4⟩:=hO6.froz5k HKL.out)
     |fail)
    have hA7:=zI8 hA6 HKL.out;clear hA6 hA3 hO hO6 r0 r1 r2 r3 r4 s0 s1 s2 s3 s4;generalize (((((w6.setCell ⟨ng,k*5,none⟩ (.slice K2 key.length kc)).setCell ⟨ng,k*5+1,none⟩ (.int .i64 ck)).setCell ⟨ng,k*5+2,none⟩ (.slice V2 val.length vc)).setCell ⟨ng,k*5+3,none⟩ (.int .i64 pg)).setCell ⟨ng,k*5+4,none⟩ (.int .i64 ct))=w7 at*;have HS:Fct w7.drew p P used waste bx kind (some ⟨ug,0,none⟩) PV KA VA uc pvc ka va l pre key val ck pg ct∧zCE w7.drew ug k ⟨.slice ZK zkey.length zk,.slice ZV zval.length zv,⟨zkey,zck,zval,zpg,zct⟩⟩:=⟨fQ hA7.drew,hfo _ _ hA7.drew⟩
    cases fk with
    |true=>
     obtain rfl:an=false:=by rw [han];rfl
     clear han;refine jJ 32 (fun w'=>Fct w' p P used waste bx kind (some ⟨ug,0,none⟩) PV KA VA uc pvc ka va l pre key val ck pg ct∧zCE w' ug k ⟨.slice ZK zkey.length zk,.slice ZV zval.length zv,⟨zkey,zck,zval,zpg,zct⟩⟩) (by kernel_rfl) (by kernel_rfl) (by kernel_rfl) (by kernel_rfl) (by kernel_rfl) ?_;refine zH 0 (v:= ?_) rfl (by kernel_rfl) (by kernel_rfl) (by kernel_rfl) (fun _ _ _ h=>h) (by rfl) HS ?_ ?_
     rotate_left
     ·intro w hSw;obtain ⟨⟨⟨c0,c1,c2,c3,c4⟩,b0,b1,b2,b3,b4,b5⟩,z0,z1,z2,z3,z4⟩:=hSw;go_simp;try with_reducible rfl
     try simp only [Act.put,List.setIfInBounds_toArray,List.set_cons_zero,List.set_cons_succ]
     refine zH 1 (v:= ?_) rfl (by kernel_rfl) (by kernel_rfl) (by kernel_rfl) (fun _ _ _ h=>h) (by rfl) HS ?_ ?_
     rotate_left
     ·intro w hSw;obtain ⟨⟨⟨c0,c1,c2,c3,c4⟩,b0,b1,b2,b3,b4,b5⟩,z0,z1,z2,z3,z4⟩:=hSw;go_simp;try with_reducible rfl
     try simp only [Act.put,List.setIfInBounds_toArray,List.set_cons_zero,List.set_cons_succ]
     refine zH 2 (v:= ?_) rfl (by kernel_rfl) (by kernel_rfl) (by kernel_rfl) (fun _ _ _ h=>h) (by rfl) HS ?_ ?_
     rotate_left
     ·intro w hSw;obtain ⟨⟨⟨c0,c1,c2,c3,c4⟩,b0,b1,b2,b3,b4,b5⟩,z0,z1,z2,z3,z4⟩:=hSw;go_simp;try with_reducible rfl
     try simp only [Act.put,List.setIfInBounds_toArray,List.set_cons_zero,List.set_cons_succ]
     refine zH 3 (v:= ?_) rfl (by kernel_rfl) (by kernel_rfl) (by kernel_rfl) (fun _ _ _ h=>h) (by rfl) HS ?_ ?_
     rotate_left
     ·intro w hSw;obtain ⟨⟨⟨c0,c1,c2,c3,c4⟩,b0,b1,b2,b3,b4,b5⟩,z0,z1,z2,z3,z4⟩:=hSw;go_simp;try with_reducible rfl
     try simp only [Act.put,List.setIfInBounds_toArray,List.set_cons_zero,List.set_cons_succ]
     refine zH 4 (v:= ?_) rfl (by kernel_rfl) (by kernel_rfl) (by kernel_rfl) (fun _ _ _ h=>h) (by rfl) HS ?_ ?_
     rotate_left
     ·intro w hSw;obtain ⟨⟨⟨c0,c1,c2,c3,c4⟩,b0,b1,b2,b3,b4,b5⟩,z0,z1,z2,z3,z4⟩:=hSw;go_simp;try with_reducible rfl
     try simp only [Act.put,List.setIfInBounds_toArray,List.set_cons_zero,List.set_cons_succ]
     refine zH 5 (v:= ?_) rfl (by kernel_rfl) (by kernel_rfl) (by kernel_rfl) (fun _ _ _ h=>h) (by rfl) HS ?_ ?_
     rotate_left
     ·intro w hSw;obtain ⟨⟨⟨c0,c1,c2,c3,c4⟩,b0,b1,b2,b3,b4,b5⟩,z0,z1,z2,z3,z4⟩:=hSw;go_simp;try with_reducible rfl
     try simp only [Act.put,List.setIfInBounds_toArray,List.set_cons_zero,List.set_cons_succ]
     refine zH 6 (v:= ?_) rfl (by kernel_rfl) (by kernel_rfl) (by kernel_rfl) (fun _ _ _ h=>h) (by rfl) HS ?_ ?_
     rotate_left
     ·intro w hSw;obtain ⟨⟨⟨c0,c1,c2,c3,c4⟩,b0,b1,b2,b3,b4,b5⟩,z0,z1,z2,z3,z4⟩:=hSw;go_simp;try with_reducible rfl
     try simp only [Act.put,List.setIfInBounds_toArray,List.set_cons_zero,List.set_cons_succ]
     refine zH 7 (v:= ?_) rfl (by kernel_rfl) (by kernel_rfl) (by kernel_rfl) (fun _ _ _ h=>h) (by rfl) HS ?_ ?_
     rotate_left
     ·intro w hSw;obtain ⟨⟨⟨c0,c1,c2,c3,c4⟩,b0,b1,b2,b3,b4,b5⟩,z0,z1,z2,z3,z4⟩:=hSw;go_simp;try with_reducible rfl
     try simp only [Act.put,List.setIfInBounds_toArray,List.set_cons_zero,List.set_cons_succ]
     refine zH 8 (v:= ?_) rfl (by kernel_rfl) (by kernel_rfl) (by kernel_rfl) (fun _ _ _ h=>h) (by rfl) HS ?_ ?_
     rotate_left
     ·intro w hSw;obtain ⟨⟨⟨c0,c1,c2,c3,c4⟩,b0,b1,b2,b3,b4,b5⟩,z0,z1,z2,z3,z4⟩:=hSw;go_simp;try with_reducible rfl
     try simp only [Act.put,List.setIfInBounds_toArray,List.set_cons_zero,List.set_cons_succ]
     refine zH 9 (v:= ?_) rfl (by kernel_rfl) (by kernel_rfl) (by kernel_rfl) (fun _ _ _ h=>h) (by rfl) HS ?_ ?_
     rotate_left
     ·intro w hSw;obtain ⟨⟨⟨c0,c1,c2,c3,c4⟩,b0,b1,b2,b3,b4,b5⟩,z0,z1,z2,z3,z4⟩:=hSw;go_simp;try with_reducible rfl
     try simp only [Act.put,List.setIfInBounds_toArray,List.set_cons_zero,List.set_cons_succ]
     refine zH 10 (v:= ?_) rfl (by kernel_rfl) (by kernel_rfl) (by kernel_rfl) (fun _ _ _ h=>h) (by rfl) HS ?_ ?_
     rotate_left
     ·intro w hSw;obtain ⟨⟨⟨c0,c1,c2,c3,c4⟩,b0,b1,b2,b3,b4,b5⟩,z0,z1,z2,z3,z4⟩:=hSw;go_simp;try with_reducible rfl
     try simp only [Act.put,List.setIfInBounds_toArray,List.set_cons_zero,List.set_cons_succ]
     refine zH 11 (v:= ?_) rfl (by kernel_rfl) (by kernel_rfl) (by kernel_rfl) (fun _ _ _ h=>h) (by rfl) HS ?_ ?_
     rotate_left
     ·intro w hSw;obtain ⟨⟨⟨c0,c1,c2,c3,c4⟩,b0,b1,b2,b3,b4,b5⟩,z0,z1,z2,z3,z4⟩:=hSw;go_simp;try with_reducible rfl
     try simp only [Act.put,List.setIfInBounds_toArray,List.set_cons_zero,List.set_cons_succ]
     refine zH 12 (v:= ?_) rfl (by kernel_rfl) (by kernel_rfl) (by kernel_rfl) (fun _ _ _ h=>h) (by rfl) HS ?_ ?_
     rotate_left
     ·intro w hSw;obtain ⟨⟨⟨c0,c1,c2,c3,c4⟩,b0,b1,b2,b3,b4,b5⟩,z0,z1,z2,z3,z4⟩:=hSw;go_simp;try with_reducible rfl
     try simp only [Act.put,List.setIfInBounds_toArray,List.set_cons_zero,List.set_cons_succ]
     refine zH 13 (v:= ?_) rfl (by kernel_rfl) (by kernel_rfl) (by kernel_rfl) (fun _ _ _ h=>h) (by rfl) HS ?_ ?_
     rotate_left
     ·intro w hSw;obtain ⟨⟨⟨c0,c1,c2,c3,c4⟩,b0,b1,b2,b3,b4,b5⟩,z0,z1,z2,z3,z4⟩:=hSw;go_simp;try with_reducible rfl
     try simp only [Act.put,List.setIfInBounds_toArray,List.set_cons_zero,List.set_cons_succ]
     refine zH 14 (v:= ?_) rfl (by kernel_rfl) (by kernel_rfl) (by kernel_rfl) (fun _ _ _ h=>h) (by rfl) HS ?_ ?_
     rotate_left
     ·intro w hSw;obtain ⟨⟨⟨c0,c1,c2,c3,c4⟩,b0,b1,b2,b3,b4,b5⟩,z0,z1,z2,z3,z4⟩:=hSw;go_simp;try with_reducible rfl
     try simp only [Act.put,List.setIfInBounds_toArray,List.set_cons_zero,List.set_cons_succ]
     refine zH 15 (v:= ?_) rfl (by kernel_rfl) (by kernel_rfl) (by kernel_rfl) (fun _ _ _ h=>h) (by rfl) HS ?_ ?_
     rotate_left
     ·intro w hSw;obtain ⟨⟨⟨c0,c1,c2,c3,c4⟩,b0,b1,b2,b3,b4,b5⟩,z0,z1,z2,z3,z4⟩:=hSw;go_simp;try with_reducible rfl
     try simp only [Act.put,List.setIfInBounds_toArray,List.set_cons_zero,List.set_cons_succ]
     refine zH 16 (v:= ?_) rfl (by kernel_rfl) (by kernel_rfl) (by kernel_rfl) (fun _ _ _ h=>h) (by rfl) HS ?_ ?_
     rotate_left
     ·intro w hSw;obtain ⟨⟨⟨c0,c1,c2,c3,c4⟩,b0,b1,b2,b3,b4,b5⟩,z0,z1,z2,z3,z4⟩:=hSw;go_simp;try with_reducible rfl
     try simp only [Act.put,List.setIfInBounds_toArray,List.set_cons_zero,List.set_cons_succ]
     refine zH 17 (v:= ?_) rfl (by kernel_rfl) (by kernel_rfl) (by kernel_rfl) (fun _ _ _ h=>h) (by rfl) HS ?_ ?_
     rotate_left
     ·intro w hSw;obtain ⟨⟨⟨c0,c1,c2,c3,c4⟩,b0,b1,b2,b3,b4,b5⟩,z0,z1,z2,z3,z4⟩:=hSw;go_simp;try with_reducible rfl
     try simp only [Act.put,List.setIfInBounds_toArray,List.set_cons_zero,List.set_cons_succ]
     refine zH 18 (v:= ?_) rfl (by kernel_rfl) (by kernel_rfl) (by kernel_rfl) (fun _ _ _ h=>h) (by rfl) HS ?_ ?_
     rotate_left
     ·intro w hSw;obtain ⟨⟨⟨c0,c1,c2,c3,c4⟩,b0,b1,b2,b3,b4,b5⟩,z0,z1,z2,z3,z4⟩:=hSw;go_simp;try with_reducible rfl
     try simp only [Act.put,List.setIfInBounds_toArray,List.set_cons_zero,List.set_cons_succ]
     refine zH 20 (v:= ?_) rfl (by kernel_rfl) (by kernel_rfl) (by kernel_rfl) (fun _ _ _ h=>h) (by rfl) HS ?_ ?_
     rotate_left
     ·intro w hSw;obtain ⟨⟨⟨c0,c1,c2,c3,c4⟩,b0,b1,b2,b3,b4,b5⟩,z0,z1,z2,z3,z4⟩:=hSw;go_simp;try with_reducible rfl
     try simp only [Act.put,List.setIfInBounds_toArray,List.set_cons_zero,List.set_cons_succ]
     refine zH 21 (v:= ?_) rfl (by kernel_rfl) (by kernel_rfl) (by kernel_rfl) (fun _ _ _ h=>h) (by rfl) HS ?_ ?_
     rotate_left
     ·intro w hSw;obtain ⟨⟨⟨c0,c1,c2,c3,c4⟩,b0,b1,b2,b3,b4,b5⟩,z0,z1,z2,z3,z4⟩:=hSw;go_simp;try with_reducible rfl
     try simp only [Act.put,List.setIfInBounds_toArray,List.set_cons_zero,List.set_cons_succ]
     refine jU 19 rfl (by kernel_rfl) (by kernel_rfl) (fun K hK=> ?_)
     go_simp
     go_at_call 168
     refine (HLEN.out _ (hzok _ _ hA7.drew)).mono ?_;rintro e w8 ⟨rfl,hw8⟩;have hA8:=hA7.drew.below hw8;refine hK.out _ _ ?_ (fun HS=> ?_)
     ·exact ⟨fQ hA8,hfo _ _ hA8⟩
     clear hK K;refine zH 22 (v:= ?_) rfl (by kernel_rfl) (by kernel_rfl) (by kernel_rfl) (fun _ _ _ h=>h) (by rfl) HS ?_ ?_
     rotate_left
     ·intro w hSw;obtain ⟨⟨⟨c0,c1,c2,c3,c4⟩,b0,b1,b2,b3,b4,b5⟩,z0,z1,z2,z3,z4⟩:=hSw;go_simp;try with_reducible rfl
     try simp only [Act.put,List.setIfInBounds_toArray,List.set_cons_zero,List.set_cons_succ]
     refine zU 23 rfl (by kernel_rfl) (by kernel_rfl) (by kernel_rfl) (fun _ _ _ h=>h) (by rfl) HS ?_
     try simp only [Act.put,List.setIfInBounds_toArray,List.set_cons_zero,List.set_cons_succ]
     refine zU 24 rfl (by kernel_rfl) (by kernel_rfl) (by kernel_rfl) (fun _ _ _ h=>h) (by rfl) HS ?_
     try simp only [Act.put,List.setIfInBounds_toArray,List.set_cons_zero,List.set_cons_succ]
     refine zU 25 rfl (by kernel_rfl) (by kernel_rfl) (by kernel_rfl) (fun _ _ _ h=>h) (by rfl) HS ?_
     try simp only [Act.put,List.setIfInBounds_toArray,List.set_cons_zero,List.set_cons_succ]
     refine zU 26 rfl (by kernel_rfl) (by kernel_rfl) (by kernel_rfl) (fun _ _ _ h=>h) (by rfl) HS ?_
     try simp only [Act.put,List.setIfInBounds_toArray,List.set_cons_zero,List.set_cons_succ]
     refine zU 27 rfl (by kernel_rfl) (by kernel_rfl) (by kernel_rfl) (fun _ _ _ h=>h) (by rfl) HS ?_
     try simp only [Act.put,List.setIfInBounds_toArray,List.set_cons_zero,List.set_cons_succ]
     refine zU 28 rfl (by kernel_rfl) (by kernel_rfl) (by kernel_rfl) (fun _ _ _ h=>h) (by rfl) HS ?_
     try simp only [Act.put,List.setIfInBounds_toArray,List.set_cons_zero,List.set_cons_succ]
     refine zU 29 rfl (by kernel_rfl) (by kernel_rfl) (by kernel_rfl) (fun _ _ _ h=>h) (by rfl) HS ?_
     try simp only [Act.put,List.setIfInBounds_toArray,List.set_cons_zero,List.set_cons_succ]
     refine zU 30 rfl (by kernel_rfl) (by kernel_rfl) (by kernel_rfl) (fun _ _ _ h=>h) (by rfl) HS ?_
     try simp only [Act.put,List.setIfInBounds_toArray,List.set_cons_zero,List.set_cons_succ]
     refine zH 31 (v:= ?_) rfl (by kernel_rfl) (by kernel_rfl) (by kernel_rfl) (fun _ _ _ h=>h) (by rfl) HS ?_ ?_
     rotate_left
     ·intro w hSw;obtain ⟨⟨⟨c0,c1,c2,c3,c4⟩,b0,b1,b2,b3,b4,b5⟩,z0,z1,z2,z3,z4⟩:=hSw;go_simp;try with_reducible rfl
     try simp only [Act.put,List.setIfInBounds_toArray,List.set_cons_zero,List.set_cons_succ]
     refine fB (by kernel_rfl) ?_;simp only [List.drop_succ_cons,List.drop_zero]
     go_wp2_with (first
      |(go_at_call 228;refine (HCH3.out _ _ _ _ _ _ _ _ hA8).mono ?_;rintro e w10 ⟨⟨rfl,hfin9⟩,hbx9⟩)
      |fail)
     go_ret;exact ⟨rfl,hfin9⟩
    |false=>
     obtain rfl:an= !jG key pre:=by rw [han];rfl
     clear han;refine jJ 32 (fun w'=>Fct w' p P used waste bx kind (some ⟨ug,0,none⟩) PV KA VA uc pvc ka va l pre key val ck pg ct∧zCE w' ug k ⟨.slice ZK zkey.length zk,.slice ZV zval.length zv,⟨zkey,zck,zval,zpg,zct⟩⟩) (by kernel_rfl) (by kernel_rfl) (by kernel_rfl) (by kernel_rfl) (by kernel_rfl) ?_;refine zH 0 (v:= ?_) rfl (by kernel_rfl) (by kernel_rfl) (by kernel_rfl) (fun _ _ _ h=>h) (by rfl) HS ?_ ?_
     rotate_left
     ·intro w hSw;obtain ⟨⟨⟨c0,c1,c2,c3,c4⟩,b0,b1,b2,b3,b4,b5⟩,z0,z1,z2,z3,z4⟩:=hSw;go_simp;try with_reducible rfl
     try simp only [Act.put,List.setIfInBounds_toArray,List.set_cons_zero,List.set_cons_succ]
     refine zH 1 (v:= ?_) rfl (by kernel_rfl) (by kernel_rfl) (by kernel_rfl) (fun _ _ _ h=>h) (by rfl) HS ?_ ?_
     rotate_left
     ·intro w hSw;obtain ⟨⟨⟨c0,c1,c2,c3,c4⟩,b0,b1,b2,b3,b4,b5⟩,z0,z1,z2,z3,z4⟩:=hSw;go_simp;try with_reducible rfl
     try simp only [Act.put,List.setIfInBounds_toArray,List.set_cons_zero,List.set_cons_succ]
     refine zH 2 (v:= ?_) rfl (by kernel_rfl) (by kernel_rfl) (by kernel_rfl) (fun _ _ _ h=>h) (by rfl) HS ?_ ?_
     rotate_left
     ·intro w hSw;obtain ⟨⟨⟨c0,c1,c2,c3,c4⟩,b0,b1,b2,b3,b4,b5⟩,z0,z1,z2,z3,z4⟩:=hSw;go_simp;try with_reducible rfl
     try simp only [Act.put,List.setIfInBounds_toArray,List.set_cons_zero,List.set_cons_succ]
     refine zH 3 (v:= ?_) rfl (by kernel_rfl) (by kernel_rfl) (by kernel_rfl) (fun _ _ _ h=>h) (by rfl) HS ?_ ?_
     rotate_left
     ·intro w hSw;obtain ⟨⟨⟨c0,c1,c2,c3,c4⟩,b0,b1,b2,b3,b4,b5⟩,z0,z1,z2,z3,z4⟩:=hSw;go_simp;try with_reducible rfl
     try simp only [Act.put,List.setIfInBounds_toArray,List.set_cons_zero,List.set_cons_succ]
     refine zH 4 (v:= ?_) rfl (by kernel_rfl) (by kernel_rfl) (by kernel_rfl) (fun _ _ _ h=>h) (by rfl) HS ?_ ?_
     rotate_left
     ·intro w hSw;obtain ⟨⟨⟨c0,c1,c2,c3,c4⟩,b0,b1,b2,b3,b4,b5⟩,z0,z1,z2,z3,z4⟩:=hSw;go_simp;try with_reducible rfl
     try simp only [Act.put,List.setIfInBounds_toArray,List.set_cons_zero,List.set_cons_succ]
     refine zH 5 (v:= ?_) rfl (by kernel_rfl) (by kernel_rfl) (by kernel_rfl) (fun _ _ _ h=>h) (by rfl) HS ?_ ?_
     rotate_left
     ·intro w hSw;obtain ⟨⟨⟨c0,c1,c2,c3,c4⟩,b0,b1,b2,b3,b4,b5⟩,z0,z1,z2,z3,z4⟩:=hSw;go_simp;try with_reducible rfl
     try simp only [Act.put,List.setIfInBounds_toArray,List.set_cons_zero,List.set_cons_succ]
     refine zH 6 (v:= ?_) rfl (by kernel_rfl) (by kernel_rfl) (by kernel_rfl) (fun _ _ _ h=>h) (by rfl) HS ?_ ?_
     rotate_left
     ·intro w hSw;obtain ⟨⟨⟨c0,c1,c2,c3,c4⟩,b0,b1,b2,b3,b4,b5⟩,z0,z1,z2,z3,z4⟩:=hSw;go_simp;try with_reducible rfl
     try simp only [Act.put,List.setIfInBounds_toArray,List.set_cons_zero,List.set_cons_succ]
     refine zH 7 (v:= ?_) rfl (by kernel_rfl) (by kernel_rfl) (by kernel_rfl) (fun _ _ _ h=>h) (by rfl) HS ?_ ?_
     rotate_left
     ·intro w hSw;obtain ⟨⟨⟨c0,c1,c2,c3,c4⟩,b0,b1,b2,b3,b4,b5⟩,z0,z1,z2,z3,z4⟩:=hSw;go_simp;try with_reducible rfl
     try simp only [Act.put,List.setIfInBounds_toArray,List.set_cons_zero,List.set_cons_succ]
     refine zH 8 (v:= ?_) rfl (by kernel_rfl) (by kernel_rfl) (by kernel_rfl) (fun _ _ _ h=>h) (by rfl) HS ?_ ?_
     rotate_left
     ·intro w hSw;obtain ⟨⟨⟨c0,c1,c2,c3,c4⟩,b0,b1,b2,b3,b4,b5⟩,z0,z1,z2,z3,z4⟩:=hSw;go_simp;try with_reducible rfl
     try simp only [Act.put,List.setIfInBounds_toArray,List.set_cons_zero,List.set_cons_succ]
     refine zH 9 (v:= ?_) rfl (by kernel_rfl) (by kernel_rfl) (by kernel_rfl) (fun _ _ _ h=>h) (by rfl) HS ?_ ?_
     rotate_left
     ·intro w hSw;obtain ⟨⟨⟨c0,c1,c2,c3,c4⟩,b0,b1,b2,b3,b4,b5⟩,z0,z1,z2,z3,z4⟩:=hSw;go_simp;try with_reducible rfl
     try simp only [Act.put,List.setIfInBounds_toArray,List.set_cons_zero,List.set_cons_succ]
     refine zH 10 (v:= ?_) rfl (by kernel_rfl) (by kernel_rfl) (by kernel_rfl) (fun _ _ _ h=>h) (by rfl) HS ?_ ?_
     rotate_left
     ·intro w hSw;obtain ⟨⟨⟨c0,c1,c2,c3,c4⟩,b0,b1,b2,b3,b4,b5⟩,z0,z1,z2,z3,z4⟩:=hSw;go_simp;try with_reducible rfl
     try simp only [Act.put,List.setIfInBounds_toArray,List.set_cons_zero,List.set_cons_succ]
     refine zH 11 (v:= ?_) rfl (by kernel_rfl) (by kernel_rfl) (by kernel_rfl) (fun _ _ _ h=>h) (by rfl) HS ?_ ?_
     rotate_left
     ·intro w hSw;obtain ⟨⟨⟨c0,c1,c2,c3,c4⟩,b0,b1,b2,b3,b4,b5⟩,z0,z1,z2,z3,z4⟩:=hSw;go_simp;try with_reducible rfl
     try simp only [Act.put,List.setIfInBounds_toArray,List.set_cons_zero,List.set_cons_succ]
     refine zH 12 (v:= ?_) rfl (by kernel_rfl) (by kernel_rfl) (by kernel_rfl) (fun _ _ _ h=>h) (by rfl) HS ?_ ?_
     rotate_left
     ·intro w hSw;obtain ⟨⟨⟨c0,c1,c2,c3,c4⟩,b0,b1,b2,b3,b4,b5⟩,z0,z1,z2,z3,z4⟩:=hSw;go_simp;try with_reducible rfl
     try simp only [Act.put,List.setIfInBounds_toArray,List.set_cons_zero,List.set_cons_succ]
     refine zH 13 (v:= ?_) rfl (by kernel_rfl) (by kernel_rfl) (by kernel_rfl) (fun _ _ _ h=>h) (by rfl) HS ?_ ?_
     rotate_left
     ·intro w hSw;obtain ⟨⟨⟨c0,c1,c2,c3,c4⟩,b0,b1,b2,b3,b4,b5⟩,z0,z1,z2,z3,z4⟩:=hSw;go_simp;try with_reducible rfl
     try simp only [Act.put,List.setIfInBounds_toArray,List.set_cons_zero,List.set_cons_succ]
     refine zH 14 (v:= ?_) rfl (by kernel_rfl) (by kernel_rfl) (by kernel_rfl) (fun _ _ _ h=>h) (by rfl) HS ?_ ?_
     rotate_left
     ·intro w hSw;obtain ⟨⟨⟨c0,c1,c2,c3,c4⟩,b0,b1,b2,b3,b4,b5⟩,z0,z1,z2,z3,z4⟩:=hSw;go_simp;try with_reducible rfl
     try simp only [Act.put,List.setIfInBounds_toArray,List.set_cons_zero,List.set_cons_succ]
     refine zH 15 (v:= ?_) rfl (by kernel_rfl) (by kernel_rfl) (by kernel_rfl) (fun _ _ _ h=>h) (by rfl) HS ?_ ?_
     rotate_left
     ·intro w hSw;obtain ⟨⟨⟨c0,c1,c2,c3,c4⟩,b0,b1,b2,b3,b4,b5⟩,z0,z1,z2,z3,z4⟩:=hSw;go_simp;try with_reducible rfl
     try simp only [Act.put,List.setIfInBounds_toArray,List.set_cons_zero,List.set_cons_succ]
     refine zH 16 (v:= ?_) rfl (by kernel_rfl) (by kernel_rfl) (by kernel_rfl) (fun _ _ _ h=>h) (by rfl) HS ?_ ?_
     rotate_left
     ·intro w hSw;obtain ⟨⟨⟨c0,c1,c2,c3,c4⟩,b0,b1,b2,b3,b4,b5⟩,z0,z1,z2,z3,z4⟩:=hSw;go_simp;try with_reducible rfl
     try simp only [Act.put,List.setIfInBounds_toArray,List.set_cons_zero,List.set_cons_succ]
     refine zH 17 (v:= ?_) rfl (by kernel_rfl) (by kernel_rfl) (by kernel_rfl) (fun _ _ _ h=>h) (by rfl) HS ?_ ?_
     rotate_left
     ·intro w hSw;obtain ⟨⟨⟨c0,c1,c2,c3,c4⟩,b0,b1,b2,b3,b4,b5⟩,z0,z1,z2,z3,z4⟩:=hSw;go_simp;try with_reducible rfl
     try simp only [Act.put,List.setIfInBounds_toArray,List.set_cons_zero,List.set_cons_succ]
     refine zH 18 (v:= ?_) rfl (by kernel_rfl) (by kernel_rfl) (by kernel_rfl) (fun _ _ _ h=>h) (by rfl) HS ?_ ?_
     rotate_left
     ·intro w hSw;obtain ⟨⟨⟨c0,c1,c2,c3,c4⟩,b0,b1,b2,b3,b4,b5⟩,z0,z1,z2,z3,z4⟩:=hSw;go_simp;try with_reducible rfl
     try simp only [Act.put,List.setIfInBounds_toArray,List.set_cons_zero,List.set_cons_succ]
     refine zH 20 (v:= ?_) rfl (by kernel_rfl) (by kernel_rfl) (by kernel_rfl) (fun _ _ _ h=>h) (by rfl) HS ?_ ?_
     rotate_left
     ·intro w hSw;obtain ⟨⟨⟨c0,c1,c2,c3,c4⟩,b0,b1,b2,b3,b4,b5⟩,z0,z1,z2,z3,z4⟩:=hSw;go_simp;try with_reducible rfl
     try simp only [Act.put,List.setIfInBounds_toArray,List.set_cons_zero,List.set_cons_succ]
     refine zH 21 (v:= ?_) rfl (by kernel_rfl) (by kernel_rfl) (by kernel_rfl) (fun _ _ _ h=>h) (by rfl) HS ?_ ?_
     rotate_left
     ·intro w hSw;obtain ⟨⟨⟨c0,c1,c2,c3,c4⟩,b0,b1,b2,b3,b4,b5⟩,z0,z1,z2,z3,z4⟩:=hSw;go_simp;try with_reducible rfl
     try simp only [Act.put,List.setIfInBounds_toArray,List.set_cons_zero,List.set_cons_succ]
     refine jU 19 rfl (by kernel_rfl) (by kernel_rfl) (fun K hK=> ?_)
     go_simp
     go_at_call 168
     refine (HLEN.out _ (hzok _ _ hA7.drew)).mono ?_;rintro e w8 ⟨rfl,hw8⟩;have hA8:=hA7.drew.below hw8;refine hK.out _ _ ?_ (fun HS=> ?_)
     ·exact ⟨fQ hA8,hfo _ _ hA8⟩
     clear hK K;refine zH 22 (v:= ?_) rfl (by kernel_rfl) (by kernel_rfl) (by kernel_rfl) (fun _ _ _ h=>h) (by rfl) HS ?_ ?_
     rotate_left
     ·intro w hSw;obtain ⟨⟨⟨c0,c1,c2,c3,c4⟩,b0,b1,b2,b3,b4,b5⟩,z0,z1,z2,z3,z4⟩:=hSw;go_simp;try with_reducible rfl
     try simp only [Act.put,List.setIfInBounds_toArray,List.set_cons_zero,List.set_cons_succ]
     refine zH 23 (v:= ?_) rfl (by kernel_rfl) (by kernel_rfl) (by kernel_rfl) (fun _ _ _ h=>h) (by rfl) HS ?_ ?_
     rotate_left
     ·intro w hSw;obtain ⟨⟨⟨c0,c1,c2,c3,c4⟩,b0,b1,b2,b3,b4,b5⟩,z0,z1,z2,z3,z4⟩:=hSw;go_simp;try with_reducible rfl
     try simp only [Act.put,List.setIfInBounds_toArray,List.set_cons_zero,List.set_cons_succ]
     refine zH 24 (v:= ?_) rfl (by kernel_rfl) (by kernel_rfl) (by kernel_rfl) (fun _ _ _ h=>h) (by rfl) HS ?_ ?_
     rotate_left
     ·intro w hSw;obtain ⟨⟨⟨c0,c1,c2,c3,c4⟩,b0,b1,b2,b3,b4,b5⟩,z0,z1,z2,z3,z4⟩:=hSw;go_simp;try with_reducible rfl
     try simp only [Act.put,List.setIfInBounds_toArray,List.set_cons_zero,List.set_cons_succ]
     refine zH 25 (v:= ?_) rfl (by kernel_rfl) (by kernel_rfl) (by kernel_rfl) (fun _ _ _ h=>h) (by rfl) HS ?_ ?_
     rotate_left
     ·intro w hSw;obtain ⟨⟨⟨c0,c1,c2,c3,c4⟩,b0,b1,b2,b3,b4,b5⟩,z0,z1,z2,z3,z4⟩:=hSw;go_simp;try with_reducible rfl
     try simp only [Act.put,List.setIfInBounds_toArray,List.set_cons_zero,List.set_cons_succ]
     refine zH 26 (v:= ?_) rfl (by kernel_rfl) (by kernel_rfl) (by kernel_rfl) (fun _ _ _ h=>h) (by rfl) HS ?_ ?_
     rotate_left
     ·intro w hSw;obtain ⟨⟨⟨c0,c1,c2,c3,c4⟩,b0,b1,b2,b3,b4,b5⟩,z0,z1,z2,z3,z4⟩:=hSw;go_simp;try with_reducible rfl
     try simp only [Act.put,List.setIfInBounds_toArray,List.set_cons_zero,List.set_cons_succ]
     refine zH 27 (v:= ?_) rfl (by kernel_rfl) (by kernel_rfl) (by kernel_rfl) (fun _ _ _ h=>h) (by rfl) HS ?_ ?_
     rotate_left
     ·intro w hSw;obtain ⟨⟨⟨c0,c1,c2,c3,c4⟩,b0,b1,b2,b3,b4,b5⟩,z0,z1,z2,z3,z4⟩:=hSw;go_simp;try with_reducible rfl
     try simp only [Act.put,List.setIfInBounds_toArray,List.set_cons_zero,List.set_cons_succ]
     refine zH 28 (v:= ?_) rfl (by kernel_rfl) (by kernel_rfl) (by kernel_rfl) (fun _ _ _ h=>h) (by rfl) HS ?_ ?_
     rotate_left
     ·intro w hSw;obtain ⟨⟨⟨c0,c1,c2,c3,c4⟩,b0,b1,b2,b3,b4,b5⟩,z0,z1,z2,z3,z4⟩:=hSw;go_simp;try with_reducible rfl
     try simp only [Act.put,List.setIfInBounds_toArray,List.set_cons_zero,List.set_cons_succ]
     refine jU 29 rfl (by kernel_rfl) (by kernel_rfl) (fun K hK=> ?_)
     go_simp
     go_at_call 230
     refine (zEH hA8 HX.out).mono ?_;rintro e w9 ⟨rfl,rfl⟩;refine hK.out _ _ ?_ (fun HS=> ?_)
     ·exact ⟨fQ hA8,hfo _ _ hA8⟩
     clear hK K;refine zH 30 (v:= ?_) rfl (by kernel_rfl) (by kernel_rfl) (by kernel_rfl) (fun _ _ _ h=>h) (by rfl) HS ?_ ?_
     rotate_left
     ·intro w hSw;obtain ⟨⟨⟨c0,c1,c2,c3,c4⟩,b0,b1,b2,b3,b4,b5⟩,z0,z1,z2,z3,z4⟩:=hSw;go_simp;try with_reducible rfl
     try simp only [Act.put,List.setIfInBounds_toArray,List.set_cons_zero,List.set_cons_succ]
     refine zH 31 (v:= ?_) rfl (by kernel_rfl) (by kernel_rfl) (by kernel_rfl) (fun _ _ _ h=>h) (by rfl) HS ?_ ?_
     rotate_left
     ·intro w hSw;obtain ⟨⟨⟨c0,c1,c2,c3,c4⟩,b0,b1,b2,b3,b4,b5⟩,z0,z1,z2,z3,z4⟩:=hSw;go_simp;try with_reducible rfl
     try simp only [Act.put,List.setIfInBounds_toArray,List.set_cons_zero,List.set_cons_succ]
     refine fB (by kernel_rfl) ?_;simp only [List.drop_succ_cons,List.drop_zero]
     go_wp2_with (first
      |(go_at_call 228;refine (HCH3.out _ _ _ _ _ _ _ _ hA8).mono ?_;rintro e w10 ⟨⟨rfl,hfin9⟩,hbx9⟩)
      |fail)
     go_ret;exact ⟨rfl,hfin9⟩
  ·have HZ:=Lib.hid hZ;go_wp2_with fail;go_ret;obtain ⟨h1,h2⟩:=HZZ.out HZ.out;rw [h1,h2];exact ⟨rfl,HF.out _ (hS2.tail)⟩
end Go.Proofs.YtfcnkpofcekmgaaGreat
