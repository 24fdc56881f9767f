/- Texts joined. -/
import Derived.Test.YtfcnkpofcekmgaaGreatNQ27
set_option maxRecDepth 100000
set_option maxHeartbeats 64000000
namespace Go.Proofs.YtfcnkpofcekmgaaGreat
open Go.RowKit
def l9 (w0:World) (L:List Ent) (r P:Nat) (kind z:Int) (lp:List PC) (e:Ending) (w':World):Prop:=
 ∃u' l',e= .returned (.int .i64 z)∧pcs l'=lp∧RngC l'∧Sep w0 w' (rpE r kind P u' l'::L)
theorem Sep.csWith {w0 w:World} {L:List Ent} {v:Value} {l:List CV} {y:CV} {i gone N:Nat} (hg:gone≤1) (hi:i+gone≤l.length) (hN:(l.take i++y::l.drop (i+gone)).length=N)
 (h:Sep w0 w (zB y.kv y.c.key::zB y.vv y.c.val::zP 43 5 v N (zF (l.take i++y::l.drop (i+gone)))::(zG l++L))):Sep w0 w (csE v (l.take i++y::l.drop (i+gone))::L):=by
 rcases Nat.le_one_iff_eq_zero_or_eq_one.1 hg with rfl|rfl
 ·exact Sep.csIns hN h
 ·exact Sep.csSet hN (by omega) h
theorem zA0 {w0 w:World} {L:List Ent} {r P:Nat} {kind:Int} {u:Value} {l:List CV} (hS:Sep w0 w (rpE r kind P u l::L)) (hr:RngC l) (hk:Wk kind P (pcs l)) (hkd:kind=2∨kind=3) (hP:P≤65536) (x:CV) (hx:XIn L x) (i:Int) (hi64:yE i) (gone:Nat) (hg1:gone≤1):
 Calls Tryz.prog 147 #[.pointer (some ⟨r,0,none⟩),.int .i64 i,.int .i64 (gone:Int),zJ x] w (l9 w0 L r P kind (vU kind P (pcs l) i gone x.c) (gI kind P (pcs l) i gone x.c)):=by
 have hlen:=hk.len hP;rw [zA] at hlen;have hS0:=hS.rpOpen;have hS1:=hS0.alloc 43 [x.kv,.int .i64 x.c.kind,x.vv,.int .i64 x.c.page,.int .i64 x.c.count];have hx1:=hx.ok hS1 (fun E hE=>by simp [hE]);have hrd:=hS1.openRd (u:=u) (l:=l) (by simp) (fun E hE=>by simp [hE]) hr;obtain ⟨U,uc,rfl,hm,hc⟩:=hrd.slice;have hbp:OBlk _ r 116 [.int .i64 kind,.int .i64 (P:Int),.slice U l.length uc]:=hS1.tail.head;obtain ⟨b0,b1,b2⟩:=xC hbp
 have i0:IntKind.i64.wrap ((l.length:Int)-(gone:Int))=(l.length:Int)-(gone:Int):=by rw [IntKind.wrap_i64];omega
 by_cases hin:i<0∨(l.length:Int)-gone<i
 ·have hz:vU kind P (pcs l) i gone x.c=64:=nD (by rw [zA];omega);rw [hz];have HL2:Hid (pcs l=gI kind P (pcs l) i gone x.c):=Lib.hid (by rw [fD (by rw [hz];omega)]);have hS2:=hS1.tail;clear hz hS1 hx1 hrd hbp hS hS0;unfold zJ;rcases hin with h|h
  ·go_enter Tryz.func147,Tryz.ntmps147;go_wp2_with fail;go_ret;exact ⟨_,l,rfl,HL2.out,hr,hS2.rpClose⟩
  ·have h':¬i<0:=by omega
   go_enter Tryz.func147,Tryz.ntmps147;go_wp2_with fail;go_ret;exact ⟨_,l,rfl,HL2.out,hr,hS2.rpClose⟩
 ·obtain ⟨k,rfl⟩:∃k:Nat,i=(k:Int):=⟨i.toNat,by omega⟩
  have hkl:k+gone≤l.length:=by omega
  have hkp:k+gone≤(pcs l).length:=by rw [zA];exact hkl
  have hz:vU kind P (pcs l) (k:Int) gone x.c=bK kind P (pcs l) k gone x.c:=lX hkp;have HL2:Hid (vU kind P (pcs l) (k:Int) gone x.c≠0→pcs l=gI kind P (pcs l) (k:Int) gone x.c):=Lib.hid (fun e=>by rw [fD e])
  have HL3:Hid (vU kind P (pcs l) (k:Int) gone x.c=0→∀y:CV,y.c=x.c→pcs (l.take k++y::l.drop (k+gone))=gI kind P (pcs l) (k:Int) gone x.c):=Lib.hid (fun e y hy=>by
   rw [dF e,bJ l k gone y,hy];rfl)
  have HW:∀y:CV,Hid (y.c=x.c→pcs (l.take k++y::l.drop (k+gone))=zX (pcs l) k gone x.c):=fun y=>Lib.hid (fun hy=>by rw [bJ,hy]);have H62:Hid (zQ kind P x.c=false→vU kind P (pcs l) (k:Int) gone x.c=62):=Lib.hid (fun h=>by rw [hz];exact zJY h);have H63:Hid (zQ kind P x.c=true→¬Rising (zX (pcs l) k gone x.c)→vU kind P (pcs l) (k:Int) gone x.c=63):=Lib.hid (fun h h2=>by rw [hz];exact zJ7 h hk.rise hkp h2);have H61:Hid (zQ kind P x.c=true→Rising (zX (pcs l) k gone x.c)→P<zW (zX (pcs l) k gone x.c)→vU kind P (pcs l) (k:Int) gone x.c=61):=Lib.hid (fun h h2 h3=>by rw [hz];exact zJV h hk.rise hkp h2 h3);have H0:Hid (zQ kind P x.c=true→Rising (zX (pcs l) k gone x.c)→¬P<zW (zX (pcs l) k gone x.c)→vU kind P (pcs l) (k:Int) gone x.c=0):=Lib.hid (fun h h2 h3=>by rw [hz];exact zKN h hk.rise hkp h2 h3)
  have HFIT:Hid (zQ kind P x.c=true→Fit (zX (pcs l) k gone x.c)):=Lib.hid (fun h=>sX (P:=P) (fun c hc=>by
   unfold zX at hc;rcases List.mem_append.1 hc with hc|hc
   ·exact xY (hk.may c (List.mem_of_mem_take hc))
   ·rcases List.mem_cons.1 hc with rfl|hc
    ·exact xY h
    ·exact xY (hk.may c (List.mem_of_mem_drop hc))) hP (by have:=hk.withLen (i:=k) (gone:=gone) (c:=x.c) hP hkp;omega))
  generalize vU kind P (pcs l) (k:Int) gone x.c=Z at*;generalize gI kind P (pcs l) (k:Int) gone x.c=lp at*;have hma:=fun W hW=>uL kind P hkd hP x W hW
  have i1:¬(k:Int)<0:=by omega
  have i2:¬(l.length:Int)-(gone:Int)<(k:Int):=by omega
  have hwi:=fun (W:World) (hW:Sep w0 W _)=>zDY (L:=L) (P:=P) (kind:=kind) (r:=r) (u:= .slice U l.length uc) (l:=l) hW hr hlen x hx k gone hkl;clear hz hin hS hS0 hk hrd hkp;obtain ⟨KA,ka,VA,va,key,ck,val,pg,ct,rfl,-,-⟩:=CV.form hx1;simp only at hx1 hS1 HL3 HW H62 H63 H61 H0 HFIT hma hwi⊢;unfold zJ at hma hwi⊢;simp only at hma hwi⊢;have HMA:=Lib.hid hma;have HX:=Lib.hid hx;have HWI:=Lib.hid hwi;clear hma hx hwi;obtain ⟨mB,hmB⟩:∃q,zQ kind P ⟨key,ck,val,pg,ct⟩=q:=⟨_,rfl⟩;have hma1:=HMA.out _ hx1;simp only [hmB] at H62 H63 H61 H0 HFIT HMA;clear hmB hma1;obtain ⟨c0,c1,c2,c3,c4⟩:=zC hS1.blk;go_enter Tryz.func147,Tryz.ntmps147;go_upto_region 3 with (fail);generalize hW1:w.alloc (.cells #[.slice KA key.length ka,.int .i64 ck,.slice VA val.length va,.int .i64 pg,.int .i64 ct] 43)=w1 at*;clear hW1;have hC1:OBlk w1 w.heap.size 43 [.slice KA key.length ka,.int .i64 ck,.slice VA val.length va,.int .i64 pg,.int .i64 ct]:=hS1.head;have hcl:=hC1.lt;have hpl:=hbp.lt;have hma2:Calls Tryz.prog 115 #[.int .i64 kind,.int .i64 (P:Int),.agg #[.slice KA key.length ka,.int .i64 ck,.slice VA val.length va,.int .i64 pg,.int .i64 ct]] w1.drew fun e w'=>e= .returned (.bool mB)∧Below w1.heap.size w1.drew w':=HMA.out _ (hx1.below ((Below.refl _ _).drew))
  go_cut [34] (fun s wx=>s= .bool (!mB)∧Below w1.heap.size w1 wx)
  case first=>
   go_region_held3 (fun w'=>w'.cell? ⟨w.heap.size,0,none⟩=some (.slice KA key.length ka)∧w'.cell? ⟨w.heap.size,1,none⟩=some (.int .i64 ck)∧w'.cell? ⟨w.heap.size,2,none⟩=some (.slice VA val.length va)∧w'.cell? ⟨w.heap.size,3,none⟩=some (.int .i64 pg)∧w'.cell? ⟨w.heap.size,4,none⟩=some (.int .i64 ct)∧w'.cell? ⟨r,0,none⟩=some (.int .i64 kind)∧w'.cell? ⟨r,1,none⟩=some (.int .i64 (P:Int)))
    (first
     |exact ⟨c0,c1,c2,c3,c4,b0,b1⟩
     |(obtain ⟨d0,d1,d2,d3,d4⟩:=zC (hC1.drew.below hw2 hcl);obtain ⟨f0,f1,_⟩:=xC (hbp.drew.below hw2 hpl);exact ⟨d0,d1,d2,d3,d4,f0,f1⟩))
    (first
     |(go_at_call 115;refine hma2.mono ?_;rintro e w2 ⟨rfl,hw2⟩)
     |fail)
   go_wp2_with fail;go_meet;exact ⟨rfl,(Below.refl _ _).drew.trans hw2⟩
  case rest=>
   obtain ⟨rfl,hw2⟩:=hcut;have hS2:=hS1.below hw2;clear hS1 hx1 hbp b0 b1 b2 c0 c1 c2 c3 c4 hC1 hcl hpl hw2 hma2
   cases mB with
   |false=>
    have e:=H62.out rfl;subst e;go_wp2_with fail;go_ret;exact ⟨_,l,rfl,HL2.out (by omega),hr,hS2.tail.rpClose⟩
   |true=>
    have hC2:OBlk wc w.heap.size 43 [.slice KA key.length ka,.int .i64 ck,.slice VA val.length va,.int .i64 pg,.int .i64 ct]:=hS2.head;obtain ⟨c0,c1,c2,c3,c4⟩:=zC hC2;have hwi:=HWI.out _ hS2.tail;clear hC2
    go_upto_region 6 with (first
     |(go_at_call 176;(with_reducible refine hwi.mono ?_);rintro e w3 ⟨v3,⟨ykv,yvv,yc⟩,rfl,hyc,hS3⟩;simp only at hyc;subst hyc)
     |fail)
    obtain ⟨l',hl'⟩:∃q,l.take k++(⟨ykv,yvv,⟨key,ck,val,pg,ct⟩⟩:CV)::l.drop (k+gone)=q:=⟨_,rfl⟩;have hpl':=(HW ⟨ykv,yvv,⟨key,ck,val,pg,ct⟩⟩).out rfl;have hlp':Hid (Z=0→pcs l'=lp):=Lib.hid (fun e=>by rw [←hl'];exact HL3.out e ⟨ykv,yvv,⟨key,ck,val,pg,ct⟩⟩ rfl);have hrng':Hid (RngC l'):=Lib.hid (by rw [←hl'];exact hr.with_ (y:=⟨ykv,yvv,⟨key,ck,val,pg,ct⟩⟩) ⟨HX.out.r1,HX.out.r2,HX.out.r3⟩ _ _)
    have hN':l'.length=l.length+1-gone:=by rw [←hl'];simp only [List.length_append,List.length_cons,List.length_take,List.length_drop];omega
    simp only [hl'] at hS3 hpl';have hrdl:=hS3.openRd (u:= .slice U l.length uc) (l:=l) (by simp) (fun E hE=>by simp [hE]) hr
    have hrd3:RdCs w3 v3 l':=by
     refine ⟨(hS3.of_mem (E:=zP 43 5 v3 l'.length (zF l')) (by simp):Own w3 0 43 5 v3 l'.length (zF l')).rd,fun z hz=> ?_⟩;rw [←hl'] at hz;rcases List.mem_append.1 hz with hz|hz
     ·exact hrdl.ok z (List.mem_of_mem_take hz)
     ·rcases List.mem_cons.1 hz with rfl|hz
      ·exact ⟨OwB.rd (show OwB w3 0 ykv key from hS3.head),OwB.rd (show OwB w3 0 yvv val from hS3.tail.head),HX.out.r1,HX.out.r2,HX.out.r3⟩
      ·exact hrdl.ok z (List.mem_of_mem_drop hz)
    rw [←hpl'] at H63 H61 H0 HFIT;have HLL:=Lib.hid hl';clear hwi c0 c1 c2 c3 c4 hS2 HWI HMA HW H62 HL3 hl' hpl' hrdl HX;obtain ⟨V3,vc3,rfl,hm3,hc3⟩:=hrd3.slice;go_wp2_with fail
    go_loopw [10] (fun i wr=>∃j:Nat,1≤j∧j≤l'.length∧i= .int .i64 (j:Int)∧Hid (∀q (hq:q+1<j) (hql:q+1<(pcs l').length),yD ((pcs l')[q]'(by omega)).key (pcs l')[q+1].key<0)∧Below w3.heap.size w3 wr) (fun i _=>l'.length-(intOf i).toNat)
    case atStart=>exact ⟨1,by omega,by omega,rfl,Lib.hid (fun q hq=>by omega),Below.refl _ _⟩
    case round=>
     obtain ⟨j,hj1,hj,rfl,HJ,hB⟩:=hrel;obtain ⟨kk,rfl⟩:∃kk,j=kk+1:=⟨j-1,by omega⟩
     by_cases hlt:kk+1<l'.length
     ·obtain ⟨ad,K,kc,rfl,q0,hkr⟩:=(hrd3.below hB).key_atW (i:=kk) (by omega);obtain ⟨_,K',kc',ea,q0',hkr'⟩:=(hrd3.below hB).key_atW (i:=kk+1) hlt
      cases ea
      have hnx:Hid (yD l'[kk].c.key l'[kk+1].c.key<0→∀q (hq:q+1<kk+1+1) (hql:q+1<(pcs l').length),yD ((pcs l')[q]'(by omega)).key (pcs l')[q+1].key<0):=Lib.hid (fun ho q hq hql=>by
       by_cases e:q=kk
       ·subst e;rw [zV (by omega),zV hlt];exact ho
       ·exact HJ.out q (by omega) hql)
      have hbad:Hid (¬yD l'[kk].c.key l'[kk+1].c.key<0→¬Rising (pcs l')):=Lib.hid (fun ho h=>ho (by
       have:=(sO _).1 h kk (by rw [zA];exact hlt)
       rw [zV (by omega),zV hlt] at this
       exact this))
      have j1:(0:Int)≤(kk:Int):=by omega
      have j2:(kk:Int)<(l'.length:Int):=by omega
      have j3:kk<l'.length:=by omega
      have j4:IntKind.i64.wrap (kk:Int)=(kk:Int):=by rw [IntKind.wrap_i64];omega
      have j6:(0:Int)≤(kk:Int)+1:=by omega
      have j7:(kk:Int)+1<(l'.length:Int):=by omega
      have j8:((kk:Int)+1).toNat=kk+1:=by omega
      have j9:IntKind.i64.wrap ((kk:Int)+1)=(kk:Int)+1:=by rw [IntKind.wrap_i64];omega
      have s1:=fun n=>tD hkr n;have s2:=fun n=>tD hkr' n;have hbl0:=qO l'[kk].c.key l'[kk+1].c.key;generalize l'[kk].c.key=ka1 at*;generalize l'[kk+1].c.key=ka2 at*;clear hkr hkr'
      by_cases hoc:yD ka1 ka2<0
      ·have hbl:Op.bytesLess ka1 ka2=true:=by rw [hbl0];exact decide_eq_true hoc
       have HNX:=Lib.hid (hnx.out hoc);clear hbl0 hoc hnx hbad HJ;go_upto_region 9 with (fail);go_quiet (fail);go_wp2_with fail;exact ⟨⟨kk+1+1,by omega,by omega,by go_num,HNX,cO hB _⟩,by simp [intOf];omega⟩
      ·have hbl:Op.bytesLess ka1 ka2=false:=by rw [hbl0];exact decide_eq_false hoc
       have e:=H63.out (by first|rfl|trivial) (hbad.out hoc);subst e;have hSr:=hS3.below hB;clear hbl0 hoc hnx hbad HJ;go_upto_region 9 with (fail);go_quiet (fail);go_wp2_with fail;go_ret;exact ⟨_,l,rfl,HL2.out (by omega),hr,(hSr.drewN _).tail.tail.tail.rpClose⟩
     ·have hjl:l'.length=kk+1:=by omega
      have hris:Rising (pcs l'):=(sO _).2 fun q hq=>HJ.out q (by rw [zA] at hq;omega) hq;have HRI:=Lib.hid hris;have hfit:=HFIT.out (by first|rfl|trivial);have hS4:=hS3.below hB;have hB4:OBlk wr r 116 [.int .i64 kind,.int .i64 (P:Int),.slice U l.length uc]:=hS4.tail.tail.tail.head;obtain ⟨b0,b1,b2⟩:=xC hB4;have hpl:=hB4.lt;have hsz:Calls Tryz.prog 116 #[.int .i64 kind,.slice V3 l'.length vc3] wr.drew fun e w'=>e= .returned (.int .i64 (zW (pcs l'):Nat))∧Below wr.heap.size wr.drew w':=nX kind _ l' wr.drew (hrd3.below (hB.drew)) hfit;have HSZ:=Lib.hid hsz
      have k1:¬(kk:Int)+1<(l'.length:Int):=by omega
      have HJL:=Lib.hid hjl;clear hjl;have HZ1:Hid (P<zW (pcs l')→Z=61):=Lib.hid (fun h=>H61.out (by first|rfl|trivial) hris h);have HZ0:Hid (¬P<zW (pcs l')→Z=0):=Lib.hid (fun h=>H0.out (by first|rfl|trivial) hris h);generalize zW (pcs l')=sz at*;clear HJ hris hfit hrd3 hB HFIT H63 H61 H0 hlt hS3 hsz hN';go_upto_region 11 with (fail)
      go_cut [70] (fun s wx=>s= .bool (decide (P<sz))∧Below wr.heap.size wr wx)
      case first=>
       go_region_held3 (fun w'=>w'.cell? ⟨r,0,none⟩=some (.int .i64 kind)∧w'.cell? ⟨r,1,none⟩=some (.int .i64 (P:Int)))
        (first
         |exact ⟨b0,b1⟩
         |(obtain ⟨f0,f1,_⟩:=xC (hB4.drew.below hw5 hpl);exact ⟨f0,f1⟩))
        (first
         |(go_at_call 116;refine HSZ.out.mono ?_;rintro e w5 ⟨rfl,hw5⟩)
         |fail)
       go_wp2_with fail;go_meet;exact ⟨rfl,(Below.refl _ _).drew.trans hw5⟩
      case rest=>
       obtain ⟨rfl,hw5⟩:=hcut;have hS5:=hS4.below hw5;clear hS4 hB4 b0 b1 b2 hw5 hpl
       by_cases hz:P<sz
       ·have e:=HZ1.out hz;subst e;rw [show decide (P<sz)=true from decide_eq_true hz];clear hz;go_wp2_with fail;go_ret;exact ⟨_,l,rfl,HL2.out (by omega),hr,hS5.tail.tail.tail.rpClose⟩
       ·have e:=HZ0.out hz;subst e;rw [show decide (P<sz)=false from decide_eq_false hz];clear hz;have hB5:OBlk wc r 116 [.int .i64 kind,.int .i64 (P:Int),.slice U l.length uc]:=hS5.tail.tail.tail.head;obtain ⟨b0,b1,b2⟩:=xC hB5;have f2:=hB5.frozen (j:=2) (by simp);clear hB5;go_wp2_with fail;go_ret;have hS6:=(Sep.sw3 hS5).setCell 2 (.slice V3 l'.length vc3);simp only [List.set_cons_succ,List.set_cons_zero] at hS6;have hS7:Sep w0 _ (zB ykv key::zB yvv val::zP 43 5 (.slice V3 l'.length vc3) l'.length (zF l')::z7 r 116 [.int .i64 kind,.int .i64 (P:Int),.slice V3 l'.length vc3]::(zG l++L)):=Sep.pick (L:= [_,_,_,_,_]) [1,2,3,0] (by decide) rfl hS6;have hS8:=hS7.push3;rw [←HLL.out] at hS8;have hS9:=(Sep.csWith (y:=⟨ykv,yvv,⟨key,ck,val,pg,ct⟩⟩) hg1 hkl rfl hS8).sw1;rw [HLL.out] at hS9;exact ⟨_,l',rfl,hlp'.out (by first|rfl|trivial),hrng'.out,hS9.rpShut⟩
theorem aN {w0 w:World} {L:List Ent} {r P:Nat} {kind:Int} {u:Value} {l:List CV} (hS:Sep w0 w (rpE r kind P u l::L)) (hr:RngC l) (hk:Wk kind P (pcs l)) (hkd:kind=2∨kind=3) (hP:P≤65536) (x:CV) (hx:XIn L x) (i:Int) (hi64:yE i):
 Calls Tryz.prog 89 #[.pointer (some ⟨r,0,none⟩),.int .i64 i,zJ x] w (l9 w0 L r P kind (vU kind P (pcs l) i 0 x.c) (gI kind P (pcs l) i 0 x.c)):=by
 have hx0:=hx.ok hS (fun E hE=>List.mem_cons_of_mem _ hE);have hS1:=hS.alloc 43 [x.kv,.int .i64 x.c.kind,x.vv,.int .i64 x.c.page,.int .i64 x.c.count];have hp:=zA0 (Sep.sw1 hS1) hr hk hkd hP x (XIn.app (L1:= [_]) hx) i hi64 0 (by omega);obtain ⟨c0,c1,c2,c3,c4⟩:=zC hS1.blk;clear hS;obtain ⟨KA,ka,VA,va,key,ck,val,pg,ct,rfl,-,-⟩:=CV.form hx0;clear hx hx0 hS1;unfold zJ at hp⊢;simp only at hp⊢;go_enter Tryz.func89,Tryz.ntmps89
 go_wp2_with (first
  |(go_at_call 147;refine hp.mono ?_;rintro e w3 ⟨u',l',rfl,hl',hr',hS3⟩)
  |fail)
 go_ret;exact ⟨u',l',rfl,hl',hr',Sep.tail hS3.sw1⟩
theorem zEW {w0 w:World} {L:List Ent} {r P:Nat} {kind:Int} {u:Value} {l:List CV} (hS:Sep w0 w (rpE r kind P u l::L)) (hr:RngC l) (hk:Wk kind P (pcs l)) (hkd:kind=2∨kind=3) (hP:P≤65536) (x:CV) (hx:XIn L x) (i:Int) (hi64:yE i):
 Calls Tryz.prog 91 #[.pointer (some ⟨r,0,none⟩),.int .i64 i,zJ x] w (l9 w0 L r P kind (vU kind P (pcs l) i 1 x.c) (gI kind P (pcs l) i 1 x.c)):=by
 have hx0:=hx.ok hS (fun E hE=>List.mem_cons_of_mem _ hE);have hS1:=hS.alloc 43 [x.kv,.int .i64 x.c.kind,x.vv,.int .i64 x.c.page,.int .i64 x.c.count];have hp:=zA0 (Sep.sw1 hS1) hr hk hkd hP x (XIn.app (L1:= [_]) hx) i hi64 1 (by omega);obtain ⟨c0,c1,c2,c3,c4⟩:=zC hS1.blk;clear hS;obtain ⟨KA,ka,VA,va,key,ck,val,pg,ct,rfl,-,-⟩:=CV.form hx0;clear hx hx0 hS1;unfold zJ at hp⊢;simp only at hp⊢;go_enter Tryz.func91,Tryz.ntmps91
 go_wp2_with (first
  |(go_at_call 147;refine hp.mono ?_;rintro e w3 ⟨u',l',rfl,hl',hr',hS3⟩)
  |fail)
 go_ret;exact ⟨u',l',rfl,hl',hr',Sep.tail hS3.sw1⟩
theorem aK {w0 w:World} {L:List Ent} {r P:Nat} {kind:Int} {u:Value} {l:List CV} (hS:Sep w0 w (rpE r kind P u l::L)) (hr:RngC l) (hk:Wk kind P (pcs l)) (hP:P≤65536) (i:Int) (hi64:yE i):
 Calls Tryz.prog 93 #[.pointer (some ⟨r,0,none⟩),.int .i64 i] w (l9 w0 L r P kind (sB (pcs l) i) (cT (pcs l) i)):=by
 have hlen:=hk.len hP;rw [zA] at hlen;have hS1:=hS.rpOpen;have hrd:=hS1.openRd (u:=u) (l:=l) (by simp) (fun E hE=>by simp [hE]) hr;obtain ⟨U,uc,rfl,hm,hc⟩:=hrd.slice;have hbp:OBlk _ r 116 [.int .i64 kind,.int .i64 (P:Int),.slice U l.length uc]:=hS1.head;obtain ⟨b0,b1,b2⟩:=xC hbp
 by_cases hin:i<0∨(l.length:Int)≤i
 ·have hz:sB (pcs l) i=64:=by unfold sB;rw [if_pos (by rw [zA];exact hin)]
  rw [hz];have HL2:Hid (pcs l=cT (pcs l) i):=Lib.hid (by unfold cT;rw [if_pos (by rw [zA];exact hin)]);clear hz hrd hbp hS;rcases hin with h|h
  ·go_enter Tryz.func93,Tryz.ntmps93;go_wp2_with fail;go_ret;exact ⟨_,l,rfl,HL2.out,hr,hS1.rpClose⟩
  ·have h':¬i<0:=by omega
   go_enter Tryz.func93,Tryz.ntmps93;go_wp2_with fail;go_ret;exact ⟨_,l,rfl,HL2.out,hr,hS1.rpClose⟩
 ·obtain ⟨k,rfl⟩:∃k:Nat,i=(k:Int):=⟨i.toNat,by omega⟩
  have hkl:k<l.length:=by omega
  have hz:sB (pcs l) (k:Int)=0:=by unfold sB;rw [if_neg (by rw [zA];exact hin)]
  have HL2:Hid (pcs (l.take k++l.drop (k+1))=cT (pcs l) (k:Int)):=Lib.hid (by unfold cT;rw [if_neg (by rw [zA];exact hin)];exact rC l k);rw [hz];generalize cT (pcs l) (k:Int)=lp at*
  have i1:¬(k:Int)<0:=by omega
  have i2:¬(l.length:Int)≤(k:Int):=by omega
  obtain ⟨A1,c1,s1,hr1⟩:=hrd.run_h k (by omega);obtain ⟨A2,hA2⟩:∃X,slX U uc (k+1)=X:=⟨_,rfl⟩;have s2:=fun W=>zBL U l.length uc (k+1) (by omega) W;rw [hA2] at s2;have s2':∀W,(Instr.slice 32 (.slice U l.length uc) (some (.int .i64 ((k:Int)+1))) none none).run Tryz.prog W= .ok (.slice A2 (l.length-(k+1)) (uc-(k+1))) W:=s2;have hfl:∀v∈zF l,v.oneCell'=true:=vB hrd.ok
  have ht1:(l.take k).length=k:=by rw [List.length_take];omega
  have hd1:(l.drop (k+1)).length=l.length-(k+1):=List.length_drop;have hrt:=hr1.form;rw [ht1] at hrt
  have i3:IntKind.i64.wrap ((k:Int)+1)=(k:Int)+1:=by rw [IntKind.wrap_i64];omega
  have HA2:=Lib.hid hA2;clear hz hin hS hk hrd hr1 hA2 s2;go_enter Tryz.func93,Tryz.ntmps93
  go_upto_region 5 with (first
   |(at_builtin;refine yP rfl (.tmp 17) (.tmp 23) rfl 0 _ [] rfl (Own.nil _ _ _ _) (.slice A1 k c1) (l.take k) rfl (by rw [ht1];exact hrt) (fun v hv=>hfl v (by rw [gC] at hv;exact List.mem_of_mem_take hv)) (by simp;omega) (Nat.zero_le _) ?_;intro v2 w2 ho2 hg2 hk2;rw [List.nil_append,ht1] at ho2;obtain ⟨B2,bc2,hns2⟩:=Own.slice ho2;subst hns2;have hS2:=(hS1.nilC).appC ho2 hg2 (by rcases hk2 with e|e;exact .inl e;exact .inr ⟨_,e,Nat.le_refl _⟩))
   |fail)
  clear hS1 ho2 hg2 hk2 b0 b1 b2 hbp hrt;have hrd5:=hS2.openRd (u:= .slice U l.length uc) (l:=l) (by simp) (fun E hE=>by simp [hE]) hr;have hB5:OBlk w2 r 116 [.int .i64 kind,.int .i64 (P:Int),.slice U l.length uc]:=hS2.tail.head;obtain ⟨b0,b1,b2⟩:=xC hB5;have hd5:=(hrd5.cutX (lo:=k+1) (by omega)).form;rw [HA2.out] at hd5
  have hO5:Own w2 0 43 5 (.slice B2 k bc2) (l.take k).length (zF (l.take k)):=by rw [ht1];exact hS2.head
  clear hrd5 hB5
  go_wp2_with (first
   |(at_builtin;refine yP rfl (.tmp 26) (.tmp 33) rfl 0 (.slice B2 k bc2) (l.take k) rfl hO5 (.slice A2 (l.length-(k+1)) (uc-(k+1))) (l.drop (k+1)) rfl hd5 (fun v hv=>hfl v (by rw [gK] at hv;exact List.mem_of_mem_drop hv)) (by rw [ht1,hd1];omega) (Nat.zero_le _) ?_;intro v6 w6 ho6 hg6 hk6;have hS6:=hS2.appC ho6 hg6 (by rcases hk6 with e|e;exact .inl e;exact .inr ⟨_,e,Nat.le_refl _⟩);obtain ⟨B6,bc6,hns6⟩:=Own.slice ho6;subst hns6;have hlN:(l.take k++l.drop (k+1)).length=l.length-1:=(by simp only [List.length_append,ht1,hd1];omega);rw [hlN] at hS6;have HLN:=Lib.hid hlN;clear hlN;have hB6:OBlk w6 r 116 [.int .i64 kind,.int .i64 (P:Int),.slice U l.length uc]:=hS6.tail.head;obtain ⟨x0,x1,x2⟩:=xC hB6;have g2:=hB6.frozen (j:=2) (by simp);clear ho6)
   |fail)
  go_ret;have hS8:=hS6.sw1.setCell 2 (.slice B6 (l.length-1) bc6);simp only [List.set_cons_succ,List.set_cons_zero] at hS8;have hS9:Sep w0 _ (zP 43 5 (.slice B6 (l.length-1) bc6) (l.length-1) (zF (l.take k++l.drop (k+1)))::z7 r 116 [.int .i64 kind,.int .i64 (P:Int),.slice B6 (l.length-1) bc6]::(zG l++L)):=Sep.pick (L:= [_,_,_]) [1,0] (by decide) rfl hS8
  have e1:k+(l.length-(k+1))=l.length-1:=by omega
  refine ⟨.slice B6 (l.length-1) bc6,l.take k++l.drop (k+1),rfl,HL2.out,hr.rem _ _,?_⟩;have hfin:=(Sep.csDel HLN.out hkl hS9.push1).sw1.rpShut
  first
   |exact hfin
   |(rw [e1];exact hfin)
theorem uQ {key:List UInt8} {l:List PC} (hs:Rising l) {j:Nat} (hj:j<l.length):min (j+1) (z6 key l)=if yD l[j].key key<0 then min j (z6 key l)+1 else min j (z6 key l):=by
 by_cases h:j<z6 key l
 ·rw [if_pos (mQ hj h)];omega
 ·rw [if_neg (lF hs hj (by omega))];omega
theorem zB1 {w0 w:World} {L:List Ent} {r P:Nat} {kind:Int} {u:Value} {l:List CV} (hS:Sep w0 w (rpE r kind P u l::L)) (hr:RngC l) (hk:Wk kind P (pcs l)) (hP:P≤65536) (vk:Value) (key:List UInt8) (hvk:RdIn L vk key):
 Calls Tryz.prog 95 #[.pointer (some ⟨r,0,none⟩),vk] w fun e w'=>e= .returned (.tuple #[.int .i64 (z6 key (pcs l):Nat),.bool (isF key (pcs l))])∧Sep w0 w' (rpE r kind P u l::L):=by
 have hlen:=hk.len hP;rw [zA] at hlen;have hS1:=hS.rpOpen;have hrd:=hS1.openRd (u:=u) (l:=l) (by simp) (fun E hE=>by simp [hE]) hr;obtain ⟨U,uc,rfl,hm,hc⟩:=hrd.slice;have hkr:RdB w vk key:=(hvk.cons (E:=rpE r kind P (.slice U l.length uc) l)).elim fun E h=>h.2 w (hS.of_mem h.1);obtain ⟨K,kc,rfl,hkm⟩:=hkr.form;have hbp:OBlk w r 116 [.int .i64 kind,.int .i64 (P:Int),.slice U l.length uc]:=hS1.head;have hpl:=hbp.lt;have hfl:=mF key (pcs l);rw [zA] at hfl;go_enter Tryz.func95,Tryz.ntmps95;go_wp2_with fail
 go_loopw [6,7] (fun a i wr=>∃j:Nat,j≤l.length∧i= .int .i64 (j:Int)∧a= .int .i64 ((min j (z6 key (pcs l)):Nat):Int)∧Below w.heap.size w wr) (fun _ i _=>l.length-(intOf i).toNat)
 case atStart=>exact ⟨0,Nat.zero_le _,rfl,by rw [Nat.zero_min];rfl,Below.refl _ _⟩
 case round=>
  obtain ⟨j,hj,rfl,rfl,hB⟩:=hrel;obtain ⟨b0,b1,b2⟩:=xC (hbp.below hB hpl)
  by_cases hlt:j<l.length
  ·have hlp:j<(pcs l).length:=by rw [zA];exact hlt
   have hst:=uQ (key:=key) hk.rise hlp;rw [zV hlt] at hst;obtain ⟨ad,K',kc',rfl,q0,hkr'⟩:=(hrd.below hB).key_atW hlt;have hkr2:=hkr.below hB (Nat.le_refl _)
   have j1:(0:Int)≤(j:Int):=by omega
   have j2:(j:Int)<(l.length:Int):=by omega
   have s1:=fun n=>tD hkr' n;have s2:=fun n=>tD hkr2 n;have hbl0:=qO l[j].c.key key;generalize l[j].c.key=ka1 at*;generalize z6 key (pcs l)=F at*
   have i7:IntKind.i64.wrap (((min j F:Nat):Int)+1)=((min j F:Nat):Int)+1:=by rw [IntKind.wrap_i64];omega
   have HST:=Lib.hid hst;obtain ⟨m,hm9⟩:∃m,min j F=m:=⟨_,rfl⟩;rw [hm9] at i7;simp only [hm9];have HM9:=Lib.hid hm9;clear hkr' hkr2 hst hm9
   by_cases hoc:yD ka1 key<0
   ·have hbl:Op.bytesLess ka1 key=true:=by rw [hbl0];exact decide_eq_true hoc
    have HE:Hid (min (j+1) F=m+1):=Lib.hid (by rw [HST.out,if_pos hoc,HM9.out]);clear hbl0 hoc HST HM9;go_upto_region 5 with (fail);go_quiet (fail);go_wp2_with fail;go_roundw
    case rel=>exact ⟨j+1,by omega,by go_num,by rw [HE.out];go_num,cO hB _⟩
    case measure=>simp [intOf];omega
   ·have hbl:Op.bytesLess ka1 key=false:=by rw [hbl0];exact decide_eq_false hoc
    have HE:Hid (min (j+1) F=m):=Lib.hid (by rw [HST.out,if_neg hoc,HM9.out]);clear hbl0 hoc HST HM9;go_upto_region 5 with (fail);go_quiet (fail);go_wp2_with fail;go_roundw
    case rel=>exact ⟨j+1,by omega,by go_num,by rw [HE.out],cO hB _⟩
    case measure=>simp [intOf];omega
  ·obtain rfl:j=l.length:=by omega
   rw [Nat.min_eq_right hfl];have hSr:=(hS.below hB)
   by_cases hf:z6 key (pcs l)<l.length
   ·have hfp:z6 key (pcs l)<(pcs l).length:=by rw [zA];exact hf
    have his:isF key (pcs l)=(l[z6 key (pcs l)].c.key==key):=by
     unfold isF;rw [List.getElem?_eq_getElem hfp,zV hf]
     by_cases e:l[z6 key (pcs l)].c.key=key
     ·rw [e,decide_eq_true ⟨_,rfl,e⟩];simp
     ·rw [decide_eq_false (by rintro ⟨c,hc,h⟩;injection hc with hc;rw [←hc] at h;exact e h)];exact (beq_eq_false_iff_ne.2 e).symm
    have HIS:=Lib.hid his;clear his;obtain ⟨ad,K',kc',rfl,q0,hkr'⟩:=(hrd.below hB).key_atW hf;have hkr2:=hkr.below hB (Nat.le_refl _);have s1:=fun n=>tD hkr' n;have s2:=fun n=>tD hkr2 n;generalize l[z6 key (pcs l)].c.key=ka1 at*;obtain ⟨F,hF⟩:∃F,z6 key (pcs l)=F:=⟨_,rfl⟩;have HF:=Lib.hid hF;simp only [hF] at hf q0⊢;clear hF
    have j1:(0:Int)≤(F:Int):=by omega
    have j2:(F:Int)<(l.length:Int):=by omega
    clear hkr' hkr2;go_upto_region 7 with (fail);go_quiet (fail);go_wp2_with fail;go_ret2;rw [HIS.out,HF.out];exact ⟨rfl,hSr.drewN _⟩
   ·have hfe:z6 key (pcs l)=l.length:=by omega
    have his:isF key (pcs l)=false:=by
     unfold isF;rw [hfe,List.getElem?_eq_none (by rw [zA];omega)]
     simp
    have HIS:=Lib.hid his;have HFE:=Lib.hid hfe;rw [hfe];clear his hfe
    have j2:¬(l.length:Int)<(l.length:Int):=by omega
    go_upto_region 7 with (fail);go_quiet (fail);go_wp2_with fail;go_ret2;rw [HIS.out,HFE.out];exact ⟨rfl,hSr.drewN _⟩
theorem zHB {key:List UInt8} {l:List PC} (hs:Rising l) {j:Nat} (hj:j<l.length) (h:yD l[j].key key=0):z6 key l=j∧isF key l=true:=by
 have e:=lL _ _ h
 have h1:z6 key l≤j:=by
  rcases Nat.lt_or_ge j (z6 key l) with h2|h2
  ·have:=mQ hj h2;omega
  ·exact h2
 have h3:z6 key l=j:=by
  rcases Nat.lt_or_ge (z6 key l) j with h2|h2
  ·have h4:=iK (key:=key) (l:=l) (by omega);have h5:=List.pairwise_iff_getElem.1 hs _ _ (by omega) hj h2;rw [e] at h5;exact absurd h5 h4
  ·omega
 refine ⟨h3,?_⟩;rw [eZ (by omega),beq_iff_eq]
 have:l[z6 key l]'(by omega)=l[j]:=by congr 1
 rw [this];exact e
theorem zBX {key:List UInt8} {l:List PC} (h:∀q (hq:q<l.length),yD l[q].key key≠0):isF key l=false:=by
 by_cases hl:z6 key l<l.length
 ·rw [eZ hl];exact beq_eq_false_iff_ne.2 fun e=>h _ hl (by rw [e];exact nK key)
 ·exact zE8 hl
section
variable {w0 w w':World} {L:List Ent} {r P waste:Nat} {kind:Int} {u pv:Value} {l:List CV} {pre:List UInt8} {s:KP}
theorem eK (h:RKAt w r kind P u pv waste l pre) (hs:Rising (pcs l)) (_hlen:l.length≤65536) (vk:Value) (key:List UInt8) (hkr:RdB w vk key):
 Calls Tryz.prog 96 #[.pointer (some ⟨r,0,none⟩),vk] w fun e w'=>e= .returned (.tuple #[.int .i64 (z6 key (pcs l):Nat),.bool (isF key (pcs l))])∧Below w.heap.size w w':=by
 have hrd:=h.rd;obtain ⟨U,uc,rfl,hm,hc⟩:=hrd.slice;obtain ⟨K,kc,rfl,hkm⟩:=hkr.form;have hbp:=h.blk;have hpl:=hbp.lt;have hfl:=mF key (pcs l);rw [zA] at hfl;have HSo:=Lib.hid hs;clear h hs;go_enter Tryz.func96,Tryz.ntmps96;go_wp2_with fail
 go_loopw [6,7] (fun a i wr=>∃j:Nat,j≤l.length∧i= .int .i64 (j:Int)∧a= .int .i64 ((min j (z6 key (pcs l)):Nat):Int)∧Hid (∀q (hq:q<(pcs l).length),q<j→yD (pcs l)[q].key key≠0)∧Below w.heap.size w wr) (fun _ i _=>l.length-(intOf i).toNat)
 case atStart=>exact ⟨0,Nat.zero_le _,rfl,by rw [Nat.zero_min];rfl,Lib.hid (fun q _ h=>by omega),Below.refl _ _⟩
 case round=>
  obtain ⟨j,hj,rfl,rfl,HQ,hB⟩:=hrel;obtain ⟨b0,b1,b2,b3,b4⟩:=zC (hbp.below hB hpl)
  by_cases hlt:j<l.length
  ·have hlp:j<(pcs l).length:=by rw [zA];exact hlt
   have hst:min (j+1) (z6 key (pcs l))=if yD (pcs l)[j].key key<0 then j+1 else min j (z6 key (pcs l)):=by
    by_cases h9:j<z6 key (pcs l)
    ·rw [if_pos (mQ hlp h9)];omega
    ·rw [if_neg (lF HSo.out hlp (by omega))];omega
   have heq:yD (pcs l)[j].key key=0→z6 key (pcs l)=j∧isF key (pcs l)=true:=fun h9=>zHB HSo.out hlp h9
   have hnx:yD (pcs l)[j].key key≠0→∀q (hq:q<(pcs l).length),q<j+1→yD (pcs l)[q].key key≠0:=fun h9 q hq hqj=>by
    rcases Nat.lt_or_ge q j with h8|h8
    ·exact HQ.out q hq h8
    ·have:q=j:=by omega
     subst this;exact h9
   rw [zV hlt] at hst heq hnx;obtain ⟨ad,K',kc',rfl,q0,hkr'⟩:=(hrd.below hB).key_atW hlt;have hkr2:=hkr.below hB (Nat.le_refl _);have hO:=wS _ _ _ _ wr hkr' hkr2
   have j1:(0:Int)≤(j:Int):=by omega
   have j2:(j:Int)<(l.length:Int):=by omega
   generalize l[j].c.key=ka1 at*;generalize yD ka1 key=o at*;have HST:=Lib.hid hst;have HEQ:=Lib.hid heq;have HNX:=Lib.hid hnx;clear hst heq hnx hkr' hkr2 HQ
   by_cases ho:o=0
   ·obtain ⟨hF,hI⟩:=HEQ.out ho;have HI:=Lib.hid hI;have HF:=Lib.hid hF;clear hI hF HST HNX HEQ hfl;subst ho
    go_wp2_with (first
     |(go_at_call 152;(with_reducible refine hO.mono ?_);rintro e w2 ⟨rfl,hw2⟩)
     |fail)
    go_ret2;exact ⟨by rw [HI.out,HF.out];rfl,hB.trans (hw2.mono hB.size)⟩
   ·have oz:(o==0)=false:=beq_eq_false_iff_ne.2 ho;have HN2:=Lib.hid (HNX.out ho)
    by_cases hlo:o<0
    ·have HS2:Hid (min (j+1) (z6 key (pcs l))=j+1):=Lib.hid (by rw [HST.out,if_pos hlo]);clear HST HNX HEQ ho;obtain ⟨mj,hmj⟩:∃mj,min j (z6 key (pcs l))=mj:=⟨_,rfl⟩;rw [hmj];clear hmj
     go_wp2_with (first
      |(go_at_call 152;(with_reducible refine hO.mono ?_);rintro e w2 ⟨rfl,hw2⟩)
      |fail)
     go_roundw
     case rel=>exact ⟨j+1,by omega,by go_num,by rw [HS2.out];go_num,HN2,hB.trans (hw2.mono hB.size)⟩
     case measure=>simp [intOf];omega
    ·have HS2:Hid (min (j+1) (z6 key (pcs l))=min j (z6 key (pcs l))):=Lib.hid (by rw [HST.out,if_neg hlo]);have hlo':¬o<0:=hlo;clear HST HNX HEQ ho;obtain ⟨mj,hmj⟩:∃mj,min j (z6 key (pcs l))=mj:=⟨_,rfl⟩;have HM:=Lib.hid hmj;rw [hmj];clear hmj
     go_wp2_with (first
      |(go_at_call 152;(with_reducible refine hO.mono ?_);rintro e w2 ⟨rfl,hw2⟩)
      |fail)
     go_roundw
     case rel=>exact ⟨j+1,by omega,by go_num,by rw [HS2.out,HM.out],HN2,hB.trans (hw2.mono hB.size)⟩
     case measure=>simp [intOf];omega
  ·have hjl:j=l.length:=by omega
   have HI:Hid (isF key (pcs l)=false):=Lib.hid (zBX fun q hq=>HQ.out q hq (by rw [zA] at hq;omega));have HF:Hid (min j (z6 key (pcs l))=z6 key (pcs l)):=Lib.hid (by omega)
   have ik:¬(j:Int)<(l.length:Int):=by omega
   clear HQ hfl;rw [HF.out];go_wp2_with fail;go_ret2;exact ⟨by rw [HI.out];rfl,hB⟩
theorem mN (h:RKAt w r kind P u pv waste l pre) (vk:Value) (key:List UInt8) (hkr:RdB w vk key):
 Calls Tryz.prog 150 #[.pointer (some ⟨r,0,none⟩),vk] w fun e w'=>e= .returned (.bool (jG key pre))∧Below w.heap.size w w':=by
 obtain ⟨K,kc,rfl,hkm⟩:=hkr.form;obtain ⟨PA,pc,rfl⟩:=Own.slice h.pre;obtain ⟨b0,b1,b2,b3,b4⟩:=zC h.blk;have s2:=fun n=>tD h.pre.rd n
 by_cases hle:pre.length≤key.length
 ·have i1:(pre.length:Int)≤(key.length:Int):=by omega
  obtain ⟨A7,c7,hrun,hrd7⟩:=hkr.run_h pre.length hle;have s1:=fun n=>tD hrd7 n
  have HH:Hid (jG key pre=(key.take pre.length==pre)):=by show _=_;unfold jG;rw [decide_eq_true hle,Bool.true_and]
  have HW:=Lib.hid (fun n=>zK (Below.refl w.heap.size w) n);clear h hkr hrd7;rw [HH.out];generalize key.take pre.length=kt at*;rcases Bool.eq_false_or_eq_true (kt==pre) with hq|hq
  all_goals
   rw [hq];go_enter Tryz.func150,Tryz.ntmps150;go_upto_region 2 with (fail);go_quiet (fail);go_wp2_with fail;go_ret;exact ⟨rfl,HW.out _⟩
 ·have i1:¬(pre.length:Int)≤(key.length:Int):=by omega
  have HH:Hid (jG key pre=false):=by show _=_;unfold jG;rw [decide_eq_false hle,Bool.false_and]
  have HW:=Lib.hid (fun n=>zK (Below.refl w.heap.size w) n);clear h hkr hle;go_enter Tryz.func150,Tryz.ntmps150;go_upto_region 2 with (fail);go_quiet (fail);go_wp2_with fail;go_ret;exact ⟨by rw [HH.out];rfl,HW.out _⟩
theorem rJ (h:RKAt w r kind P u pv waste l pre) (hb:xT (pcs l)≤100000000000000) (hpl:pre.length≤65536) (_hP:P≤65536) (hwa:waste≤1000000000) (hp:∀(i:Nat) (hi:i<(pcs l).length),¬(kind=3∧i=0)→pre.length≤(pcs l)[i].key.length) (htk:z5 kind (pcs l) pre.length≤1000000000000000):
 Calls Tryz.prog 151 #[.pointer (some ⟨r,0,none⟩)] w fun e w'=>e= .returned (.bool (decide (P<z5 kind (pcs l) pre.length+waste)))∧Below w.heap.size w w':=by
 have hU:=rM h hb (by omega) hp;have hbp:=h.blk;have hpz:=hbp.lt;generalize z5 kind (pcs l) pre.length=z at*
 have e1:IntKind.i64.wrap ((z:Int)+(waste:Int))=(z:Int)+(waste:Int):=by rw [IntKind.wrap_i64];omega
 clear h hp hb hpl
 by_cases hz:P<z+waste
 ·have i1:(P:Int)<(z:Int)+(waste:Int):=by omega
  rw [decide_eq_true hz];clear hz;go_enter Tryz.func151,Tryz.ntmps151
  go_upto_region 2 with (first
   |(go_at_call 105;(with_reducible refine hU.mono ?_);rintro e w2 ⟨rfl,hw2⟩)
   |fail)
  obtain ⟨b0,b1,b2,b3,b4⟩:=zC (hbp.below hw2 hpz);go_quiet (fail);go_wp2_with fail;go_ret;exact ⟨rfl,zK hw2 _⟩
 ·have i1:¬(P:Int)<(z:Int)+(waste:Int):=by omega
  rw [decide_eq_false hz];clear hz;go_enter Tryz.func151,Tryz.ntmps151
  go_upto_region 2 with (first
   |(go_at_call 105;(with_reducible refine hU.mono ?_);rintro e w2 ⟨rfl,hw2⟩)
   |fail)
  obtain ⟨b0,b1,b2,b3,b4⟩:=zC (hbp.below hw2 hpz);go_quiet (fail);go_wp2_with fail;go_ret
  first
   |exact ⟨rfl,zK hw2 _⟩
   |exact ⟨by show Ending.returned (.bool (decide ((P:Int)<(z:Int)+(waste:Int))))=_;rw [decide_eq_false (by omega)],zK hw2 _⟩
end
theorem wF {l:List CV} {k:Nat} (h:k<l.length):l.take (k+1)=l.take k++ [l[k]]:=List.take_succ_eq_append_getElem h
theorem dY {w0 w:World} {L:List Ent} {r P waste:Nat} {kind:Int} {u pv:Value} {l:List CV} {pre:List UInt8} (hS:Sep w0 w (rkB r kind P u pv waste::zP 43 5 u l.length (zF l)::zB pv pre::(zG l++L))) (hr:RngC l) (hlen:l.length≤32768) (x:CV) (hx:XIn L x) (i gone:Nat) (hi:i+gone≤l.length):
 Calls Tryz.prog 148 #[.pointer (some ⟨r,0,none⟩),.int .i64 (i:Int),.int .i64 ((i+gone:Nat):Int),zJ x] w fun e w'=>∃(A:Option Addr) (c:Nat) (y:CV),e= .returned (.slice A (l.take i++y::l.drop (i+gone)).length c)∧y.c=x.c∧
  Sep w0 w' (zB y.kv y.c.key::zB y.vv y.c.val::zP 43 5 (.slice A (l.take i++y::l.drop (i+gone)).length c) (l.take i++y::l.drop (i+gone)).length (zF (l.take i++y::l.drop (i+gone)))::rkB r kind P u pv waste::zP 43 5 u l.length (zF l)::zB pv pre::(zG l++L)):=by
 have hS1:=hS.alloc 43 [x.kv,.int .i64 x.c.kind,x.vv,.int .i64 x.c.page,.int .i64 x.c.count];have hx1:=hx.ok hS1 (fun E hE=>by simp [hE]);have hrd:=hS1.openRd (u:=u) (l:=l) (by simp) (fun E hE=>by simp [hE]) hr;obtain ⟨U,uc,rfl,hm,hc⟩:=hrd.slice;obtain ⟨KA,ka,VA,va,key,ck,val,pg,ct,rfl,-,-⟩:=CV.form hx1;have HX:=Lib.hid hx;obtain ⟨n,hn⟩:∃n,l.length=n:=⟨_,rfl⟩;obtain ⟨t,ht⟩:∃t,i+gone=t:=⟨_,rfl⟩;have HN:=Lib.hid hn;simp only at hS1 hx1;have hS1n:=hS1.nilC;rw [hn] at hS1n hi hlen hm⊢;rw [ht] at hi⊢
 have hit:i≤t:=by omega
 have HR:=Lib.hid hr;unfold zJ;clear hx hrd hS hS1 hn ht hx1 hr;go_enter Tryz.func148,Tryz.ntmps148;go_upto_region 3 with (fail);generalize hW1:w.alloc (.cells #[.slice KA key.length ka,.int .i64 ck,.slice VA val.length va,.int .i64 pg,.int .i64 ct] 43)=w1 at*;generalize w.heap.size=bx at*;clear hW1
 go_loopw [9,10] (fun cv iv wr=>∃(k:Nat) (A:Option Addr) (c:Nat),k≤i∧iv= .int .i64 (k:Int)∧cv= .slice A k c∧Sep w0 wr (zP 43 5 (.slice A k c) k (zF (l.take k))::z7 bx 43 [.slice KA key.length ka,.int .i64 ck,.slice VA val.length va,.int .i64 pg,.int .i64 ct]::rkB r kind P (.slice U n uc) pv waste::zP 43 5 (.slice U n uc) n (zF l)::zB pv pre::(zG l++L))) (fun _ iv _=>i-(intOf iv).toNat)
 case atStart=>exact ⟨0,none,0,Nat.zero_le _,rfl,rfl,hS1n⟩
 case round=>
  clear hS1n;obtain ⟨k,A,c,hk,rfl,rfl,hS⟩:=hrel
  have hrd:RdCs wr (.slice U n uc) l:=by
   have h:=hS.openRd (u:= .slice U l.length uc) (l:=l) (by rw [HN.out];simp) (fun E hE=>by simp [hE]) HR.out;rw [HN.out] at h;exact h
  have hbp:OBlk wr r 118 [.int .i64 kind,.int .i64 (P:Int),.slice U n uc,pv,.int .i64 (waste:Int)]:=hS.tail.tail.head;obtain ⟨b0,b1,b2,b3,b4⟩:=zC hbp
  by_cases hlt:k<i
  ·have ik:(k:Int)<(i:Int):=by omega
   have ikn:(k:Int)<(n:Int):=by omega
   have ik0:(0:Int)≤(k:Int):=by omega
   have hkl:k<l.length:=by rw [HN.out];omega
   obtain ⟨ad,rfl,c0,c1,c2,c3,c4⟩:=hrd.at_ hkl;have hxo:=hrd.ok _ (List.getElem_mem hkl);have HTK:=Lib.hid (wF hkl);generalize l[k]=y at*;obtain ⟨yA,ya,yB,yb,ykey,yck,yval,ypg,yct,rfl,_,_⟩:=CV.form hxo;simp only at c0 c1 c2 c3 c4;have hS5:=hS.alloc 43 [.slice yA ykey.length ya,.int .i64 yck,.slice yB yval.length yb,.int .i64 ypg,.int .i64 yct]
   have htl:(l.take k).length=k:=by rw [List.length_take,HN.out];omega
   have HTL:=Lib.hid htl;have hown2:=(show Own _ 0 43 5 (.slice A k c) k (zF (l.take k)) from hS5.tail.head);have hfive:=Rd.five wr (.slice yA ykey.length ya) (.int .i64 yck) (.slice yB yval.length yb) (.int .i64 ypg) (.int .i64 yct) 43;have hone:=vB (l:= [⟨.slice yA ykey.length ya,.slice yB yval.length yb,⟨ykey,yck,yval,ypg,yct⟩⟩]) (fun x hx=>by obtain rfl:=List.mem_singleton.1 hx;exact hxo);clear hS htl hxo hrd
   go_upto_region 4 with (first
    |(at_builtin;refine yP rfl (.tmp 18) (.tmp 26) rfl 0 (.slice A k c) (l.take k) rfl (by rw [HTL.out];exact hown2) (.slice (some ⟨wr.heap.size,0,none⟩) 1 1) [⟨.slice yA ykey.length ya,.slice yB yval.length yb,⟨ykey,yck,yval,ypg,yct⟩⟩] rfl hfive hone (by rw [HTL.out];simp only [List.length_singleton];omega) (Nat.zero_le _) ?_;intro v5 w5 ho5 hg5 hk5;rw [←HTK.out] at ho5;have hln5:(l.take (k+1)).length=k+1:=(by rw [List.length_take,HN.out];omega);rw [hln5] at ho5;obtain ⟨A5,c5,rfl⟩:=Own.slice ho5)
    |fail)
   have HS6:=Lib.hid (hS5.sw1.appC ho5 hg5 (by rcases hk5 with e|e;exact .inl e;exact .inr ⟨_,e,Nat.le_refl _⟩)).sw1.tail;clear hS5 hown2 hfive hone ho5 hg5 hk5 c0 c1 c2 c3 c4 hbp b0 b1 b2 b3 b4;go_wp2_with fail;go_roundw
   case rel=>exact ⟨k+1,A5,c5,by omega,by go_num,rfl,HS6.out⟩
   case measure=>simp [intOf];omega
  ·obtain rfl:k=i:=by omega
   obtain ⟨w2,rfl⟩:∃w2,w2=wr:=⟨_,rfl⟩;obtain ⟨c0,c1,c2,c3,c4⟩:=zC (show OBlk w2 bx 43 [.slice KA key.length ka,.int .i64 ck,.slice VA val.length va,.int .i64 pg,.int .i64 ct] from hS.tail.head);have hC:=mV hS _ (HX.out.ok hS (fun E hE=>by simp [hE])) HX.out.s1 HX.out.s2;unfold zJ at hC;simp only at hC;clear hrd hbp b0 b1 b2 b3 b4 hlt;go_wp2_with fail;refine hC.mono ?_;rintro e w3 ⟨⟨ykv,yvv,yc⟩,rfl,hyc,hS3⟩;simp only at hyc;subst hyc;obtain ⟨K2,kc,rfl⟩:=Own.slice (show OwB w3 0 ykv key from hS3.head);obtain ⟨V2,vc,rfl⟩:=Own.slice (show OwB w3 0 yvv val from hS3.tail.head);simp only at hS3⊢;have hone:=vC (x:=⟨.slice K2 key.length kc,.slice V2 val.length vc,⟨key,ck,val,pg,ct⟩⟩) (show OwB w3 0 (.slice K2 key.length kc) key from hS3.head) (show OwB w3 0 (.slice V2 val.length vc) val from hS3.tail.head);have hS4:=hS3.alloc 43 [.slice K2 key.length kc,.int .i64 ck,.slice V2 val.length vc,.int .i64 pg,.int .i64 ct];clear hC hS hS3 c0 c1 c2 c3 c4;go_upto_region 7 with (fail);generalize hW4:w3.alloc (.cells #[.slice K2 key.length kc,.int .i64 ck,.slice V2 val.length vc,.int .i64 pg,.int .i64 ct] 43)=w4 at*;generalize w3.heap.size=cb at*;clear hW4;obtain ⟨y0,y1,y2,y3,y4⟩:=zC (show OBlk w4 cb 43 [.slice K2 key.length kc,.int .i64 ck,.slice V2 val.length vc,.int .i64 pg,.int .i64 ct] from hS4.head);have hS5:=hS4.alloc 43 [.slice K2 key.length kc,.int .i64 ck,.slice V2 val.length vc,.int .i64 pg,.int .i64 ct]
   have htl:(l.take k).length=k:=by rw [List.length_take,HN.out];omega
   have HTL:=Lib.hid htl;have hown2:=(show Own _ 0 43 5 (.slice A k c) k (zF (l.take k)) from hS5.tail.tail.tail.tail.head);have hfive:=Rd.five w4 (.slice K2 key.length kc) (.int .i64 ck) (.slice V2 val.length vc) (.int .i64 pg) (.int .i64 ct) 43;obtain ⟨yy,hyy⟩:∃yy:CV,yy=⟨.slice K2 key.length kc,.slice V2 val.length vc,⟨key,ck,val,pg,ct⟩⟩:=⟨_,rfl⟩;have HYY:=Lib.hid hyy;clear hS4 htl hyy
   go_upto_region 9 with (first
    |(at_builtin;refine yP rfl (.tmp 30) (.tmp 32) rfl 0 (.slice A k c) (l.take k) rfl (by rw [HTL.out];exact hown2) (.slice (some ⟨w4.heap.size,0,none⟩) 1 1) [⟨.slice K2 key.length kc,.slice V2 val.length vc,⟨key,ck,val,pg,ct⟩⟩] rfl hfive (by simpa [zF] using hone) (by rw [HTL.out];simp only [List.length_singleton];omega) (Nat.zero_le _) ?_;intro v5 w5 ho5 hg5 hk5;rw [←HYY.out] at ho5;have hln5:(l.take k++ [yy]).length=k+1:=(by rw [List.length_append,HTL.out];rfl);rw [hln5] at ho5;obtain ⟨A5,c5,rfl⟩:=Own.slice ho5)
    |fail)
   have hS6:Sep w0 w5 (zP 43 5 (.slice A5 (k+1) c5) (k+1) (zF (l.take k++ [yy]))::zB (.slice K2 key.length kc) key::zB (.slice V2 val.length vc) val::rkB r kind P (.slice U n uc) pv waste::zP 43 5 (.slice U n uc) n (zF l)::zB pv pre::(zG l++L)):=
    Sep.pick (L:= [_,_,_,_,_,_,_,_,_]) [0,3,4,6,7,8] (by decide) rfl ((hS5.sw [_,_,_,_]).appC ho5 hg5 (by rcases hk5 with e|e;exact .inl e;exact .inr ⟨_,e,Nat.le_refl _⟩))
   clear hS5 hown2 hfive hone ho5 hg5 hk5 y0 y1 y2 y3 y4
   go_loopw [9,12] (fun cv iv wr=>∃(j:Nat) (A:Option Addr) (c:Nat),t≤j∧j≤n∧iv= .int .i64 (j:Int)∧cv= .slice A (k+1+(j-t)) c∧Sep w0 wr (zP 43 5 (.slice A (k+1+(j-t)) c) (k+1+(j-t)) (zF (l.take k++yy::(l.drop t).take (j-t)))::zB (.slice K2 key.length kc) key::zB (.slice V2 val.length vc) val::rkB r kind P (.slice U n uc) pv waste::zP 43 5 (.slice U n uc) n (zF l)::zB pv pre::(zG l++L))) (fun _ iv _=>n-(intOf iv).toNat)
   case atStart=>exact ⟨t,A5,c5,Nat.le_refl _,hi,rfl,by rw [Nat.sub_self],by rw [Nat.sub_self,List.take_zero];exact hS6⟩
   case round=>
    clear hS6;obtain ⟨j,A,c,htj,hjn,rfl,rfl,hS⟩:=hrel
    have hrd:RdCs wr (.slice U n uc) l:=by
     have h:=hS.openRd (u:= .slice U l.length uc) (l:=l) (by rw [HN.out];simp) (fun E hE=>by simp [hE]) HR.out;rw [HN.out] at h;exact h
    have hbp:OBlk wr r 118 [.int .i64 kind,.int .i64 (P:Int),.slice U n uc,pv,.int .i64 (waste:Int)]:=hS.tail.tail.tail.head;obtain ⟨b0,b1,b2,b3,b4⟩:=zC hbp
    by_cases hlt:j<n
    ·have ik:(j:Int)<(n:Int):=by omega
     have ik0:(0:Int)≤(j:Int):=by omega
     have hjl:j<l.length:=by rw [HN.out];exact hlt
     obtain ⟨ad,rfl,c0,c1,c2,c3,c4⟩:=hrd.at_ hjl;have hxo:=hrd.ok _ (List.getElem_mem hjl)
     have htk:l.take k++yy::(l.drop t).take (j+1-t)=(l.take k++yy::(l.drop t).take (j-t))++ [l[j]]:=by
      have hd:j-t<(l.drop t).length:=by rw [List.length_drop];omega
      have e1:=wF hd
      have e2:(l.drop t)[j-t]=l[j]:=by rw [List.getElem_drop];congr 1;omega
      rw [show j+1-t=j-t+1 by omega,e1,e2];simp
     have HTK:=Lib.hid htk;generalize l[j]=z at*;obtain ⟨yA,ya,yB,yb,ykey,yck,yval,ypg,yct,rfl,_,_⟩:=CV.form hxo;simp only at c0 c1 c2 c3 c4;have hS5:=hS.alloc 43 [.slice yA ykey.length ya,.int .i64 yck,.slice yB yval.length yb,.int .i64 ypg,.int .i64 yct]
     have htl:(l.take k++yy::(l.drop t).take (j-t)).length=k+1+(j-t):=by simp only [List.length_append,List.length_cons,List.length_take,List.length_drop];rw [HN.out];omega
     have HTL:=Lib.hid htl;generalize l.take k++yy::(l.drop t).take (j-t)=M at*;have hown2:=(show Own _ 0 43 5 (.slice A (k+1+(j-t)) c) (k+1+(j-t)) (zF M) from hS5.tail.head);have hfive:=Rd.five wr (.slice yA ykey.length ya) (.int .i64 yck) (.slice yB yval.length yb) (.int .i64 ypg) (.int .i64 yct) 43;have hone:=vB (l:= [⟨.slice yA ykey.length ya,.slice yB yval.length yb,⟨ykey,yck,yval,ypg,yct⟩⟩]) (fun x hx=>by obtain rfl:=List.mem_singleton.1 hx;exact hxo);clear hS htl hxo hrd htk
     go_upto_region 10 with (first
      |(at_builtin;refine yP rfl (.tmp 44) (.tmp 52) rfl 0 (.slice A (k+1+(j-t)) c) M rfl (by rw [HTL.out];exact hown2) (.slice (some ⟨wr.heap.size,0,none⟩) 1 1) [⟨.slice yA ykey.length ya,.slice yB yval.length yb,⟨ykey,yck,yval,ypg,yct⟩⟩] rfl hfive hone (by rw [HTL.out];simp only [List.length_singleton];omega) (Nat.zero_le _) ?_;intro v5 w5 ho5 hg5 hk5;have hln5:(M++ [(⟨.slice yA ykey.length ya,.slice yB yval.length yb,⟨ykey,yck,yval,ypg,yct⟩⟩:CV)]).length=k+1+(j+1-t):=(by rw [List.length_append,HTL.out];simp only [List.length_singleton];omega);rw [hln5,←HTK.out] at ho5;obtain ⟨A5,c5,rfl⟩:=Own.slice ho5)
      |fail)
     have HS6:=Lib.hid (hS5.sw1.appC ho5 hg5 (by rcases hk5 with e|e;exact .inl e;exact .inr ⟨_,e,Nat.le_refl _⟩)).sw1.tail;clear hS5 hown2 hfive hone ho5 hg5 hk5 c0 c1 c2 c3 c4 hbp b0 b1 b2 b3 b4;go_wp2_with fail;go_roundw
     case rel=>exact ⟨j+1,A5,c5,by omega,by omega,by go_num,rfl,HS6.out⟩
     case measure=>simp [intOf];omega
    ·obtain rfl:j=n:=by omega
     have hfin:(l.drop t).take (j-t)=l.drop t:=List.take_of_length_le (by rw [List.length_drop,HN.out];exact Nat.le_refl _);rw [hfin] at hS
     have hln:(l.take k++yy::l.drop t).length=k+1+(j-t):=by simp only [List.length_append,List.length_cons,List.length_take,List.length_drop];rw [HN.out];omega
     have HLN:=Lib.hid hln;have HS9:=Lib.hid hS;clear hS hfin hrd hbp hln;go_wp2_with fail;go_ret;refine ⟨A,c,yy,by rw [HLN.out];rfl,by rw [HYY.out],?_⟩;rw [HLN.out];have h9:=Sep.pick (L:= [_,_,_,_,_,_]) [1,2,0,3,4,5] (by decide) rfl HS9.out
     have e1:yy.kv= .slice K2 key.length kc:=by rw [HYY.out]
     have e2:yy.vv= .slice V2 val.length vc:=by rw [HYY.out]
     have e3:yy.c=⟨key,ck,val,pg,ct⟩:=by rw [HYY.out]
     rw [e1,e2,e3];exact h9
end Go.Proofs.YtfcnkpofcekmgaaGreat
