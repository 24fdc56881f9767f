/- Texts joined. -/
import Derived.Test.YtfcnkpofcekmgaaGreatNQ29
set_option maxRecDepth 100000
set_option maxHeartbeats 64000000
namespace Go.Proofs.YtfcnkpofcekmgaaGreat
open Go.RowKit
def exF (l:List CV) (k q:Nat):List CV:=(l.take q).take k++(l.take q).drop (k+1)
theorem zFU (l:List CV) (k:Nat):exF l k 0= []:=by unfold exF;simp
theorem zJD {l:List CV} {k:Nat} (h:k<l.length):exF l k (k+1)=exF l k k:=by
 unfold exF;rw [List.take_succ_eq_append_getElem h]
 have ht:(l.take k).length=k:=by rw [List.length_take];omega
 rw [List.take_append_of_le_length (by omega),List.drop_eq_nil_of_le (by rw [List.length_append,ht];simp),List.drop_eq_nil_of_le (by omega)]
theorem zG8 {t:List CV} {y:CV} {k q:Nat} (ht:t.length=q) (hn:q≠k):(t++ [y]).take k++(t++ [y]).drop (k+1)=(t.take k++t.drop (k+1))++ [y]:=by
 rcases Nat.lt_or_ge q k with h1|h1
 ·rw [List.take_of_length_le (show (t++ [y]).length≤k by rw [List.length_append,ht];simp;omega),List.drop_eq_nil_of_le (show (t++ [y]).length≤k+1 by rw [List.length_append,ht];simp;omega),List.take_of_length_le (show t.length≤k by omega),List.drop_eq_nil_of_le (show t.length≤k+1 by omega)]
  simp
 ·rw [List.take_append_of_le_length (by omega),List.drop_append_of_le_length (by omega),List.append_assoc]
theorem zE5 {l:List CV} {k q:Nat} (h:q<l.length) (hn:q≠k):exF l k (q+1)=exF l k q++ [l[q]]:=by
 unfold exF;rw [List.take_succ_eq_append_getElem h];exact zG8 (by rw [List.length_take];omega) hn
theorem zGL (l:List CV) (k:Nat):exF l k l.length=l.take k++l.drop (k+1):=by unfold exF;rw [List.take_length]
theorem zHN {l:List CV} {k q:Nat} (h:q≤l.length):(exF l k q).length≤q:=by
 unfold exF;simp only [List.length_append,List.length_take,List.length_drop];omega
theorem lJ {w0 w:World} {L:List Ent} {r P:Nat} {kind:Int} {s:KP} (hS:RkP w0 w L r P kind s) (hk:KInv kind P s) (hP:P≤65536) (i:Int) (hi64:yE i):
 Calls Tryz.prog 94 #[.pointer (some ⟨r,0,none⟩),.int .i64 i] w fun e w'=>e= .returned (.int .i64 (vW kind P s.l i))∧RkP w0 w' L r P kind (vY kind P s i):=by
 obtain ⟨u,pv,l,hpl,hr,hS⟩:=hS;obtain ⟨sl,pre,waste⟩:=s;simp only at hpl hS;subst hpl;have hlen:=hk.len hP;obtain ⟨hn1,hn2,hn3⟩:=hk.nums;have hpo:=hk.pre;have hbk:=hk.big hP;simp only [zA] at hlen hn1 hn2 hn3 hpo hbk;have hS2:=hS.rkOpen;have hrd:=hS2.openRd (u:=u) (l:=l) (by simp) (fun E hE=>by simp [hE]) hr;obtain ⟨U,uc,rfl,hm,hc⟩:=hrd.slice;obtain ⟨PV,pvc,rfl⟩:=Own.slice (show OwB _ 0 pv pre from hS2.tail.tail.head);have hbp:OBlk _ r 118 [.int .i64 kind,.int .i64 (P:Int),.slice U l.length uc,.slice PV pre.length pvc,.int .i64 (waste:Int)]:=hS2.head;obtain ⟨b0,b1,b2,b3,b4⟩:=zC hbp
 by_cases hin:i<0∨(l.length:Int)≤i
 ·have hz:vW kind P (pcs l) i=64:=by unfold vW;rw [if_pos (by rw [zA];exact hin)]
  have HZ:Hid (vY kind P ⟨pcs l,pre,waste⟩ i=⟨pcs l,pre,waste⟩):=Lib.hid (by unfold vY;rw [if_neg (by show ¬vW kind P (pcs l) i=0;rw [hz];decide)]);rw [HZ.out];simp only [hz];have HS:=Lib.hid hS;clear hz hrd hbp hS hS2 hk hpo;rcases hin with h|h
  ·go_enter Tryz.func94,Tryz.ntmps94;go_wp2_with fail;go_ret;exact ⟨rfl,_,_,l,rfl,hr,HS.out⟩
  ·have h':¬i<0:=by omega
   go_enter Tryz.func94,Tryz.ntmps94;go_wp2_with fail;go_ret;exact ⟨rfl,_,_,l,rfl,hr,HS.out⟩
 ·obtain ⟨k,rfl⟩:∃k:Nat,i=(k:Int):=⟨i.toNat,by omega⟩
  have hkl:k<l.length:=by omega
  have hkp:k<(pcs l).length:=by rw [zA];exact hkl
  have hrest:pcs (l.take k++l.drop (k+1))=(pcs l).take k++(pcs l).drop (k+1):=by rw [vJ,fM,←mC]
  have HREM:Hid (vW kind P (pcs l) (k:Int)=if kind=3∧(k:Int)=0∧P<zS kind (pcs (l.take k++l.drop (k+1))) then 61 else 0):=Lib.hid (by unfold vW;rw [if_neg (by rw [zA];exact hin),Int.toNat_natCast,hrest])
  have HRKN:Hid (vW kind P (pcs l) (k:Int)≠0→vY kind P ⟨pcs l,pre,waste⟩ (k:Int)=⟨pcs l,pre,waste⟩):=Lib.hid (fun h=>by unfold vY;rw [if_neg h]);have HRKY:Hid (vW kind P (pcs l) (k:Int)=0→vY kind P ⟨pcs l,pre,waste⟩ (k:Int)=wN kind ⟨pcs l,pre,waste⟩ k):=Lib.hid (fun h=>by unfold vY;rw [if_pos h,Int.toNat_natCast])
  have HTK:Hid (wN kind ⟨pcs l,pre,waste⟩ k=if kind=3∧k=0∨pcs (l.take k++l.drop (k+1))= [] then jI kind (pcs (l.take k++l.drop (k+1))) else ⟨pcs (l.take k++l.drop (k+1)),pre,waste+dN kind ⟨pcs l,pre,waste⟩ k⟩):=Lib.hid (by unfold wN;simp only [hrest])
  have HBK:Hid (xT (pcs (l.take k++l.drop (k+1)))≤10000000000):=Lib.hid (by
   rw [hrest,qP];have h1:=nN (pcs l) k;have h2:=zDG (pcs l) (k+1)
   omega)
  obtain ⟨ad,rfl,q0,q1,q2,q3,q4⟩:=hrd.at_ hkl;have hzo:=hrd.ok _ (List.getElem_mem hkl)
  have hb4:=bF kind k l[k] pre.length w.drew (hzo.below ((Below.refl w.heap.size w).drew)) (fun hn=>by
   have h9:=(jH.1 (hpo k hkp hn)).1
   rw [zV hkl] at h9;exact h9) (by have h8:=qM (hk.ok l[k].c (by show l[k].c∈pcs l;exact List.mem_map_of_mem (List.getElem_mem hkl))) hP;omega)
  have hOK:(pcF kind k l[k].c pre.length).length≤1000000:=by
   have h8:=qM (hk.ok l[k].c (by show l[k].c∈pcs l;exact List.mem_map_of_mem (List.getElem_mem hkl))) hP;have h9:=iC kind k pre.length (c:=l[k].c) (by omega);omega
  have hOE:dN kind ⟨pcs l,pre,waste⟩ k=(pcF kind k l[k].c pre.length).length:=by
   unfold dN;rw [qD (by show k<(pcs l).length;exact hkp)]
   show (pcF kind k ((pcs l)[k]'hkp) pre.length).length=_
   rw [zV hkl]
  generalize l[k]=z at*;obtain ⟨ZA,za,ZB,zb,zkey,zck,zval,zpg,zct,rfl,-,-⟩:=CV.form hzo;unfold zJ at hb4;simp only at hb4 q0 q1 q2 q3 q4 hOK hOE;generalize hol:(pcF kind k ⟨zkey,zck,zval,zpg,zct⟩ pre.length)=lold at*;have HOE:=Lib.hid hOE;have HR:=Lib.hid hr;have HKL:=Lib.hid hkl;obtain ⟨n,hn⟩:∃n,l.length=n:=⟨_,rfl⟩;have HN:=Lib.hid hn
  have ik0:¬(k:Int)<0:=by omega
  have ik1:¬(n:Int)≤(k:Int):=by omega
  have ikn:k<n:=by omega
  have hpz:=hbp.lt;rw [hn] at hS2 b2 hlen hm;have hbp:OBlk w r 118 [.int .i64 kind,.int .i64 (P:Int),.slice (some ad) n uc,.slice PV pre.length pvc,.int .i64 (waste:Int)]:=hS2.head;clear hrd hzo hOE hol hS hk hpo hin hkp hrest hbk hr hkl hn;generalize hU:(some ad:Option Addr)=U at*;go_enter Tryz.func94,Tryz.ntmps94;go_upto_region 3 with (fail);subst hU
  go_cut [5] (fun s wx=>(∃A9 c9,s= .slice A9 lold.length c9)∧Below w.heap.size w wx)
  case first=>
   go_region_held3 (fun w'=>w'.cell? ⟨r,0,none⟩=some (.int .i64 kind)∧w'.cell? ⟨r,2,none⟩=some (.slice (some ad) n uc)∧w'.cell? ⟨r,3,none⟩=some (.slice PV pre.length pvc)∧w'.cell? (ad.add (k*5))=some (.slice ZA zkey.length za)∧w'.cell? ⟨(ad.add (k*5)).block,(ad.add (k*5)).off+1,none⟩=some (.int .i64 zck)∧w'.cell? ⟨(ad.add (k*5)).block,(ad.add (k*5)).off+2,none⟩=some (.slice ZB zval.length zb)∧w'.cell? ⟨(ad.add (k*5)).block,(ad.add (k*5)).off+3,none⟩=some (.int .i64 zpg)∧w'.cell? ⟨(ad.add (k*5)).block,(ad.add (k*5)).off+4,none⟩=some (.int .i64 zct))
    (first
     |exact ⟨b0,b2,b3,q0,q1,q2,q3,q4⟩
     |exact ⟨hk5 b0,hk5 b2,hk5 b3,hk5 q0,hk5 q1,hk5 q2,hk5 q3,hk5 q4⟩)
    (first
     |(go_at_call 125;refine hb4.mono ?_;rintro e w5 ⟨v5,rfl,ho5,hw5⟩;obtain ⟨A9,c9,rfl⟩:=Own.slice ho5;have hk5:∀{p:Addr} {y:Value},w.cell? p=some y→w5.cell? p=some y:=fun {p} {y} h=>(hw5.cell (World.block_lt_of_cell? w p h)).trans h)
     |fail)
   go_wp2_with fail;go_meet;exact ⟨⟨A9,c9,rfl⟩,(Below.refl _ _).drew.trans hw5⟩
  case rest=>
   obtain ⟨⟨A9,c9,rfl⟩,hw5⟩:=hcut;have hS3:=(hS2.below hw5).nilC;obtain ⟨old,hold⟩:∃old,lold.length=old:=⟨_,rfl⟩;have HOL:Hid (dN kind ⟨pcs l,pre,waste⟩ k=old):=Lib.hid (by rw [←hold];exact HOE.out);rw [hold] at hOK⊢;clear hS2 hb4 hw5 hbp b0 b1 b2 b3 b4 q0 q1 q2 q3 q4 hold HOE hpz;obtain ⟨w2,rfl⟩:∃w2,w2=wc:=⟨_,rfl⟩;generalize hU:(some ad:Option Addr)=U at*;clear hU;go_upto_region 6 with (fail)
   go_loopw [6,7] (fun cv iv wr=>∃(q:Nat) (A:Option Addr) (c:Nat) (m:List CV),q≤n∧iv= .int .i64 (q:Int)∧cv= .slice A m.length c∧Hid (m=exF l k q)∧Sep w0 wr (zP 43 5 (.slice A m.length c) m.length (zF m)::rkB r kind P (.slice U n uc) (.slice PV pre.length pvc) waste::zP 43 5 (.slice U n uc) n (zF l)::zB (.slice PV pre.length pvc) pre::(zG l++L))) (fun _ iv _=>n-(intOf iv).toNat)
   case atStart=>exact ⟨0,none,0,[],Nat.zero_le _,rfl,rfl,Lib.hid (zFU l k).symm,hS3⟩
   case round=>
    clear hS3;obtain ⟨q,A,c,m,hq,rfl,rfl,HM,hS⟩:=hrel
    have hrd:RdCs wr (.slice U n uc) l:=by
     have h:=hS.openRd (u:= .slice U l.length uc) (l:=l) (by rw [HN.out];simp) (fun E hE=>by simp [hE]) HR.out;rw [HN.out] at h;exact h
    obtain ⟨b0,b1,b2,b3,b4⟩:=zC (show OBlk wr r 118 [.int .i64 kind,.int .i64 (P:Int),.slice U n uc,.slice PV pre.length pvc,.int .i64 (waste:Int)] from hS.tail.head)
    have hml:m.length≤q:=by rw [HM.out];exact zHN (by rw [HN.out];exact hq)
    by_cases hlt:q<n
    ·have iq:(q:Int)<(n:Int):=by omega
     have iq0:(0:Int)≤(q:Int):=by omega
     have hql:q<l.length:=by rw [HN.out];exact hlt
     rcases Nat.decEq q k with hne|hne
     case' isTrue=>
      have HM2:Hid (m=exF l k (q+1)):=Lib.hid (by rw [HM.out];rw [hne];exact (zJD HKL.out).symm)
      have ine:((q:Int) !=(k:Int))=false:=by rw [hne];simp
      have HS6:=Lib.hid hS;clear hne hS hrd;go_wp2_with fail;go_roundw
      case rel=>exact ⟨q+1,A,c,m,by omega,by go_num,rfl,HM2,HS6.out⟩
      case measure=>simp [intOf];omega
     case' isFalse=>
      have HST:=Lib.hid (zE5 hql hne);have ine:((q:Int) !=(k:Int))=true:=bne_iff_ne.2 (by omega);obtain ⟨ad2,rfl,c0,c1,c2,c3,c4⟩:=hrd.at_ hql;have hxo:=hrd.ok _ (List.getElem_mem hql);have hst:=HST.out;generalize l[q]=y at*;have HST2:=Lib.hid hst;obtain ⟨yA,ya,yB,yb,ykey,yck,yval,ypg,yct,rfl,_,_⟩:=CV.form hxo;simp only at c0 c1 c2 c3 c4;have hS5:=hS.alloc 43 [.slice yA ykey.length ya,.int .i64 yck,.slice yB yval.length yb,.int .i64 ypg,.int .i64 yct];have hown2:=(show Own _ 0 43 5 (.slice A m.length c) m.length (zF m) from hS5.tail.head);have hfive:=Rd.five wr (.slice yA ykey.length ya) (.int .i64 yck) (.slice yB yval.length yb) (.int .i64 ypg) (.int .i64 yct) 43;have hone:=vB (l:= [⟨.slice yA ykey.length ya,.slice yB yval.length yb,⟨ykey,yck,yval,ypg,yct⟩⟩]) (fun x hx=>by obtain rfl:=List.mem_singleton.1 hx;exact hxo);clear hS hxo hrd hst HST hne
      go_upto_region 7 with (first
       |(at_builtin;refine yP rfl (.tmp 50) (.tmp 58) rfl 0 (.slice A m.length c) m rfl hown2 (.slice (some ⟨wr.heap.size,0,none⟩) 1 1) [⟨.slice yA ykey.length ya,.slice yB yval.length yb,⟨ykey,yck,yval,ypg,yct⟩⟩] rfl hfive hone (by simp only [List.length_singleton];omega) (Nat.zero_le _) ?_;intro v5 w5 ho5 hg5 hk5;generalize hm5:m++ [(⟨.slice yA ykey.length ya,.slice yB yval.length yb,⟨ykey,yck,yval,ypg,yct⟩⟩:CV)]=m5 at*;obtain ⟨A5,c5,rfl⟩:=Own.slice ho5)
       |fail)
      have HM5:Hid (m5=exF l k (q+1)):=Lib.hid (by rw [←hm5,HST2.out,HM.out]);have HS6:=Lib.hid (hS5.sw1.appC ho5 hg5 (by rcases hk5 with e|e;exact .inl e;exact .inr ⟨_,e,Nat.le_refl _⟩)).sw1.tail;clear hS5 hown2 hfive hone ho5 hg5 hk5 c0 c1 c2 c3 c4 b0 b1 b2 b3 b4 hm5;go_wp2_with fail;go_roundw
      case rel=>exact ⟨q+1,A5,c5,m5,by omega,by go_num,rfl,HM5,HS6.out⟩
      case measure=>simp [intOf];omega
    ·obtain rfl:q=n:=by omega
     obtain ⟨w4,rfl⟩:∃w4,w4=wr:=⟨_,rfl⟩
     have hme:m=l.take k++l.drop (k+1):=by rw [HM.out];rw [←HN.out];exact zGL l k
     have HRNG:Hid (RngC m):=Lib.hid (by
      rw [hme];intro y hy;rcases List.mem_append.1 hy with hy|hy
      ·exact HR.out y (List.mem_of_mem_take hy)
      ·exact HR.out y (List.mem_of_mem_drop hy))
     have HCD:Hid (∀{W:World} {M:List Ent},Sep w0 W (zP 43 5 (.slice A m.length c) m.length (zF m)::(zG l++M))→Sep w0 W (csE (.slice A m.length c) m::M)):=Lib.hid (fun h=>by rw [hme] at h⊢;exact Sep.csDel rfl HKL.out h)
     have hrm:RdCs w4 (.slice A m.length c) m:=⟨(hS.head:Own w4 0 43 5 (.slice A m.length c) m.length (zF m)).rd,fun y hy=>by
      rw [hme] at hy;rcases List.mem_append.1 hy with hy|hy
      ·exact hrd.ok y (List.mem_of_mem_take hy)
      ·exact hrd.ok y (List.mem_of_mem_drop hy)⟩
     rw [←hme] at HREM HTK HBK;clear hme hrd HM;have hsz:=cK kind _ m w4 hrm (by omega) (by have:=HBK.out;omega) (rY (by have:=HBK.out;omega))
     have HT:Hid (∀W,Sep w0 W (rkB r kind P (.slice A m.length c) (.slice PV pre.length pvc) (waste+old)::csE (.slice A m.length c) m::zB (.slice PV pre.length pvc) pre::L)→Calls Tryz.prog 86 #[.pointer (some ⟨r,0,none⟩)] W fun e w'=>(∃x,e= .returned x)∧RkP w0 w' L r P kind (jI kind (pcs m))):=Lib.hid (fun W hW=>by
      refine (b7 hW (l:=m) (u:= .slice A m.length c) (fun V hV=>qA (hV (csE (.slice A m.length c) m) (by simp)) HRNG.out) (by omega) (by have:=HBK.out;omega)).mono ?_;rintro e w' ⟨h1,pv',h2⟩;refine ⟨h1,.slice A m.length c,pv',m,rfl,HRNG.out,?_⟩
      exact (Sep.pick (L:= [_,_,_,_]) [0,2,1] (by decide) rfl h2).rkShut)
     obtain ⟨sz,hszz⟩:∃sz,zS kind (pcs m)=sz:=⟨_,rfl⟩;rw [hszz] at hsz HREM;clear hrm hszz HBK
     go_upto_region 11 with (first
      |(go_at_call 122;(with_reducible refine hsz.mono ?_);rintro e w5 ⟨rfl,hw5⟩)
      |fail)
     have hS5:=hS.below hw5;clear hsz hS hw5 b0 b1 b2 b3 b4;obtain ⟨b0,b1,b2,b3,b4⟩:=zC (show OBlk w5 r 118 [.int .i64 kind,.int .i64 (P:Int),.slice U q uc,.slice PV pre.length pvc,.int .i64 (waste:Int)] from hS5.tail.head)
     have hcs:(kind=3∧k=0)∨(kind≠3)∨(kind=3∧k≠0):=by omega
     rcases hcs with ⟨h3,h0⟩|h3|⟨h3,h0⟩
     ·have e3:(kind==3)=true:=beq_iff_eq.2 h3;have e0:((k:Int)==0)=true:=beq_iff_eq.2 (by omega)
      by_cases hps:P<sz
      ·have HZ:Hid (vW kind P (pcs l) (k:Int)=61):=Lib.hid (by rw [HREM.out,if_pos ⟨h3,by omega,hps⟩]);have HKS:=Lib.hid (HRKN.out (by rw [HZ.out];decide))
       have i9:(P:Int)<(sz:Int):=by omega
       have HS9:=Lib.hid hS5.tail;clear hps h3 h0 hS5;go_wp2_with fail;go_ret;refine ⟨by rw [HZ.out];rfl,?_⟩;rw [HKS.out];refine ⟨.slice U q uc,.slice PV pre.length pvc,l,rfl,HR.out,Sep.rkClose ?_⟩;rw [HN.out];exact HS9.out
      ·have HZ:Hid (vW kind P (pcs l) (k:Int)=0):=Lib.hid (by rw [HREM.out,if_neg (fun e=>hps e.2.2)]);have HKS:Hid (vY kind P ⟨pcs l,pre,waste⟩ (k:Int)=jI kind (pcs m)):=Lib.hid (by rw [HRKY.out HZ.out,HTK.out,if_pos (.inl ⟨h3,h0⟩)])
       have i9:¬(P:Int)<(sz:Int):=by omega
       clear hps h3 h0;go_upto_region 13 with (fail);clear b0 b1 b2 b3 b4;obtain ⟨b0,b1,b2,b3,b4⟩:=zC (show OBlk w5 r 118 [.int .i64 kind,.int .i64 (P:Int),.slice U q uc,.slice PV pre.length pvc,.int .i64 (waste:Int)] from hS5.tail.head);have f2:=(show OBlk w5 r 118 [.int .i64 kind,.int .i64 (P:Int),.slice U q uc,.slice PV pre.length pvc,.int .i64 (waste:Int)] from hS5.tail.head).frozen (j:=2) (by simp);go_upto_region 14 with (fail);have hS6:Sep w0 _ (rkB r kind P (.slice A m.length c) (.slice PV pre.length pvc) waste::zP 43 5 (.slice A m.length c) m.length (zF m)::zP 43 5 (.slice U q uc) q (zF l)::zB (.slice PV pre.length pvc) pre::(zG l++L)):=hS5.sw1.setCell 2 (.slice A m.length c);clear hS5 b0 b1 b2 b3 b4 f2;generalize w5.setCell ⟨r,2,none⟩ (.slice A m.length c)=w6 at*;obtain ⟨b0,b1,b2,b3,b4⟩:=zC (show OBlk w6 r 118 [.int .i64 kind,.int .i64 (P:Int),.slice A m.length c,.slice PV pre.length pvc,.int .i64 (waste:Int)] from hS6.head);have f4:=(show OBlk w6 r 118 [.int .i64 kind,.int .i64 (P:Int),.slice A m.length c,.slice PV pre.length pvc,.int .i64 (waste:Int)] from hS6.head).frozen (j:=4) (by simp)
       have e1:IntKind.i64.wrap ((waste:Int)+(old:Int))=(waste:Int)+(old:Int):=by rw [IntKind.wrap_i64];omega
       go_upto_region 15 with (fail);have hS7:Sep w0 _ (rkB r kind P (.slice A m.length c) (.slice PV pre.length pvc) (waste+old)::zP 43 5 (.slice A m.length c) m.length (zF m)::zP 43 5 (.slice U q uc) q (zF l)::zB (.slice PV pre.length pvc) pre::(zG l++L)):=hS6.setCell 4 (.int .i64 ((waste+old:Nat):Int));clear b0 b1 b2 b3 b4 f4 e1 hS6;rw [show ((waste:Int)+(old:Int))=((waste+old:Nat):Int) by push_cast;rfl];generalize w6.setCell ⟨r,4,none⟩ (.int .i64 ((waste+old:Nat):Int))=w7 at*;obtain ⟨b0,b1,b2,b3,b4⟩:=zC (show OBlk w7 r 118 [.int .i64 kind,.int .i64 (P:Int),.slice A m.length c,.slice PV pre.length pvc,.int .i64 ((waste+old:Nat):Int)] from hS7.head);have hS7b:Sep w0 w7 (zP 43 5 (.slice A m.length c) m.length (zF m)::rkB r kind P (.slice A m.length c) (.slice PV pre.length pvc) (waste+old)::zB (.slice PV pre.length pvc) pre::(zG l++L)):=Sep.pick (L:= [_,_,_,_]) [1,0,3] (by decide) rfl hS7;have hS8:Sep w0 w7 (rkB r kind P (.slice A m.length c) (.slice PV pre.length pvc) (waste+old)::csE (.slice A m.length c) m::zB (.slice PV pre.length pvc) pre::L):=(HCD.out (hS7b.perm ((List.perm_append_comm_assoc [_,_] (zG l) L).cons _))).sw1;clear hS7 hS7b HCD;have hT:=HT.out w7 hS8;clear hS8
       go_wp2_with (first
        |(go_at_call 86;(with_reducible refine hT.mono ?_);rintro e w8 ⟨⟨_,rfl⟩,hQ⟩)
        |fail)
       go_ret;exact ⟨by rw [HZ.out];rfl,by rw [HKS.out];exact hQ⟩
     ·have e3:(kind==3)=false:=beq_eq_false_iff_ne.2 h3;have HZ:Hid (vW kind P (pcs l) (k:Int)=0):=Lib.hid (by rw [HREM.out,if_neg (fun e=>h3 e.1)])
      have HK1:Hid (vY kind P ⟨pcs l,pre,waste⟩ (k:Int)=if kind=3∧k=0∨pcs m= [] then jI kind (pcs m) else ⟨pcs m,pre,waste+old⟩):=Lib.hid (by rw [HRKY.out HZ.out,HTK.out,HOL.out])
      have HNF:Hid (¬(kind=3∧k=0)):=Lib.hid (fun e=>h3 e.1);clear h3;go_upto_region 13 with (fail);clear b0 b1 b2 b3 b4;obtain ⟨b0,b1,b2,b3,b4⟩:=zC (show OBlk w5 r 118 [.int .i64 kind,.int .i64 (P:Int),.slice U q uc,.slice PV pre.length pvc,.int .i64 (waste:Int)] from hS5.tail.head);have f2:=(show OBlk w5 r 118 [.int .i64 kind,.int .i64 (P:Int),.slice U q uc,.slice PV pre.length pvc,.int .i64 (waste:Int)] from hS5.tail.head).frozen (j:=2) (by simp);go_upto_region 14 with (fail);have hS6:Sep w0 _ (rkB r kind P (.slice A m.length c) (.slice PV pre.length pvc) waste::zP 43 5 (.slice A m.length c) m.length (zF m)::zP 43 5 (.slice U q uc) q (zF l)::zB (.slice PV pre.length pvc) pre::(zG l++L)):=hS5.sw1.setCell 2 (.slice A m.length c);clear hS5 b0 b1 b2 b3 b4 f2;generalize w5.setCell ⟨r,2,none⟩ (.slice A m.length c)=w6 at*;obtain ⟨b0,b1,b2,b3,b4⟩:=zC (show OBlk w6 r 118 [.int .i64 kind,.int .i64 (P:Int),.slice A m.length c,.slice PV pre.length pvc,.int .i64 (waste:Int)] from hS6.head);have f4:=(show OBlk w6 r 118 [.int .i64 kind,.int .i64 (P:Int),.slice A m.length c,.slice PV pre.length pvc,.int .i64 (waste:Int)] from hS6.head).frozen (j:=4) (by simp)
      have e1:IntKind.i64.wrap ((waste:Int)+(old:Int))=(waste:Int)+(old:Int):=by rw [IntKind.wrap_i64];omega
      go_upto_region 15 with (fail);have hS7:Sep w0 _ (rkB r kind P (.slice A m.length c) (.slice PV pre.length pvc) (waste+old)::zP 43 5 (.slice A m.length c) m.length (zF m)::zP 43 5 (.slice U q uc) q (zF l)::zB (.slice PV pre.length pvc) pre::(zG l++L)):=hS6.setCell 4 (.int .i64 ((waste+old:Nat):Int));clear b0 b1 b2 b3 b4 f4 e1 hS6;rw [show ((waste:Int)+(old:Int))=((waste+old:Nat):Int) by push_cast;rfl];generalize w6.setCell ⟨r,4,none⟩ (.int .i64 ((waste+old:Nat):Int))=w7 at*;obtain ⟨b0,b1,b2,b3,b4⟩:=zC (show OBlk w7 r 118 [.int .i64 kind,.int .i64 (P:Int),.slice A m.length c,.slice PV pre.length pvc,.int .i64 ((waste+old:Nat):Int)] from hS7.head);have hS7b:Sep w0 w7 (zP 43 5 (.slice A m.length c) m.length (zF m)::rkB r kind P (.slice A m.length c) (.slice PV pre.length pvc) (waste+old)::zB (.slice PV pre.length pvc) pre::(zG l++L)):=Sep.pick (L:= [_,_,_,_]) [1,0,3] (by decide) rfl hS7;have hS8:Sep w0 w7 (rkB r kind P (.slice A m.length c) (.slice PV pre.length pvc) (waste+old)::csE (.slice A m.length c) m::zB (.slice PV pre.length pvc) pre::L):=(HCD.out (hS7b.perm ((List.perm_append_comm_assoc [_,_] (zG l) L).cons _))).sw1;clear hS7 hS7b HCD;rcases Nat.eq_zero_or_pos m.length with hm0|hm0
      ·have HKS:Hid (vY kind P ⟨pcs l,pre,waste⟩ (k:Int)=jI kind (pcs m)):=Lib.hid (by rw [HK1.out,if_pos (.inr (by rw [List.eq_nil_of_length_eq_zero hm0];rfl))]);have em:((m.length:Int)==0)=true:=beq_iff_eq.2 (by omega);clear hm0;have hT:=HT.out w7 hS8;clear hS8
       go_wp2_with (first
        |(go_at_call 86;(with_reducible refine hT.mono ?_);rintro e w8 ⟨⟨_,rfl⟩,hQ⟩)
        |fail)
       go_ret;exact ⟨by rw [HZ.out];rfl,by rw [HKS.out];exact hQ⟩
      ·have HKS:Hid (vY kind P ⟨pcs l,pre,waste⟩ (k:Int)=⟨pcs m,pre,waste+old⟩):=Lib.hid (by
        rw [HK1.out,if_neg];rintro (e|e)
        ·exact HNF.out e
        ·have:=congrArg List.length e
         rw [zA] at this;simp at this;rw [this] at hm0
         simp at hm0)
       have em:((m.length:Int)==0)=false:=beq_eq_false_iff_ne.2 (by omega);clear hm0;have HS9:=Lib.hid hS8;clear hS8;go_wp2_with fail;go_ret;exact ⟨by rw [HZ.out];rfl,by rw [HKS.out];exact ⟨_,_,m,rfl,HRNG.out,HS9.out.rkShut⟩⟩
     ·have e3:(kind==3)=true:=beq_iff_eq.2 h3;have e0:((k:Int)==0)=false:=beq_eq_false_iff_ne.2 (by omega);have HZ:Hid (vW kind P (pcs l) (k:Int)=0):=Lib.hid (by rw [HREM.out,if_neg (fun e=>h0 (by omega))])
      have HK1:Hid (vY kind P ⟨pcs l,pre,waste⟩ (k:Int)=if kind=3∧k=0∨pcs m= [] then jI kind (pcs m) else ⟨pcs m,pre,waste+old⟩):=Lib.hid (by rw [HRKY.out HZ.out,HTK.out,HOL.out])
      have HNF:Hid (¬(kind=3∧k=0)):=Lib.hid (fun e=>h0 e.2);clear h3 h0;go_upto_region 13 with (fail);clear b0 b1 b2 b3 b4;obtain ⟨b0,b1,b2,b3,b4⟩:=zC (show OBlk w5 r 118 [.int .i64 kind,.int .i64 (P:Int),.slice U q uc,.slice PV pre.length pvc,.int .i64 (waste:Int)] from hS5.tail.head);have f2:=(show OBlk w5 r 118 [.int .i64 kind,.int .i64 (P:Int),.slice U q uc,.slice PV pre.length pvc,.int .i64 (waste:Int)] from hS5.tail.head).frozen (j:=2) (by simp);go_upto_region 14 with (fail);have hS6:Sep w0 _ (rkB r kind P (.slice A m.length c) (.slice PV pre.length pvc) waste::zP 43 5 (.slice A m.length c) m.length (zF m)::zP 43 5 (.slice U q uc) q (zF l)::zB (.slice PV pre.length pvc) pre::(zG l++L)):=hS5.sw1.setCell 2 (.slice A m.length c);clear hS5 b0 b1 b2 b3 b4 f2;generalize w5.setCell ⟨r,2,none⟩ (.slice A m.length c)=w6 at*;obtain ⟨b0,b1,b2,b3,b4⟩:=zC (show OBlk w6 r 118 [.int .i64 kind,.int .i64 (P:Int),.slice A m.length c,.slice PV pre.length pvc,.int .i64 (waste:Int)] from hS6.head);have f4:=(show OBlk w6 r 118 [.int .i64 kind,.int .i64 (P:Int),.slice A m.length c,.slice PV pre.length pvc,.int .i64 (waste:Int)] from hS6.head).frozen (j:=4) (by simp)
      have e1:IntKind.i64.wrap ((waste:Int)+(old:Int))=(waste:Int)+(old:Int):=by rw [IntKind.wrap_i64];omega
      go_upto_region 15 with (fail);have hS7:Sep w0 _ (rkB r kind P (.slice A m.length c) (.slice PV pre.length pvc) (waste+old)::zP 43 5 (.slice A m.length c) m.length (zF m)::zP 43 5 (.slice U q uc) q (zF l)::zB (.slice PV pre.length pvc) pre::(zG l++L)):=hS6.setCell 4 (.int .i64 ((waste+old:Nat):Int));clear b0 b1 b2 b3 b4 f4 e1 hS6;rw [show ((waste:Int)+(old:Int))=((waste+old:Nat):Int) by push_cast;rfl];generalize w6.setCell ⟨r,4,none⟩ (.int .i64 ((waste+old:Nat):Int))=w7 at*;obtain ⟨b0,b1,b2,b3,b4⟩:=zC (show OBlk w7 r 118 [.int .i64 kind,.int .i64 (P:Int),.slice A m.length c,.slice PV pre.length pvc,.int .i64 ((waste+old:Nat):Int)] from hS7.head);have hS7b:Sep w0 w7 (zP 43 5 (.slice A m.length c) m.length (zF m)::rkB r kind P (.slice A m.length c) (.slice PV pre.length pvc) (waste+old)::zB (.slice PV pre.length pvc) pre::(zG l++L)):=Sep.pick (L:= [_,_,_,_]) [1,0,3] (by decide) rfl hS7;have hS8:Sep w0 w7 (rkB r kind P (.slice A m.length c) (.slice PV pre.length pvc) (waste+old)::csE (.slice A m.length c) m::zB (.slice PV pre.length pvc) pre::L):=(HCD.out (hS7b.perm ((List.perm_append_comm_assoc [_,_] (zG l) L).cons _))).sw1;clear hS7 hS7b HCD;rcases Nat.eq_zero_or_pos m.length with hm0|hm0
      ·have HKS:Hid (vY kind P ⟨pcs l,pre,waste⟩ (k:Int)=jI kind (pcs m)):=Lib.hid (by rw [HK1.out,if_pos (.inr (by rw [List.eq_nil_of_length_eq_zero hm0];rfl))]);have em:((m.length:Int)==0)=true:=beq_iff_eq.2 (by omega);clear hm0;have hT:=HT.out w7 hS8;clear hS8
       go_wp2_with (first
        |(go_at_call 86;(with_reducible refine hT.mono ?_);rintro e w8 ⟨⟨_,rfl⟩,hQ⟩)
        |fail)
       go_ret;exact ⟨by rw [HZ.out];rfl,by rw [HKS.out];exact hQ⟩
      ·have HKS:Hid (vY kind P ⟨pcs l,pre,waste⟩ (k:Int)=⟨pcs m,pre,waste+old⟩):=Lib.hid (by
        rw [HK1.out,if_neg];rintro (e|e)
        ·exact HNF.out e
        ·have:=congrArg List.length e
         rw [zA] at this;simp at this;rw [this] at hm0
         simp at hm0)
       have em:((m.length:Int)==0)=false:=beq_eq_false_iff_ne.2 (by omega);clear hm0;have HS9:=Lib.hid hS8;clear hS8;go_wp2_with fail;go_ret;exact ⟨by rw [HZ.out];rfl,by rw [HKS.out];exact ⟨_,_,m,rfl,HRNG.out,HS9.out.rkShut⟩⟩
theorem zC6 {w0 w:World} {L:List Ent} {r P:Nat} {kind:Int} {s:KP} (hS:RkP w0 w L r P kind s) (hk:KInv kind P s) (hkd:kind=2∨kind=3) (hP:P≤65536) (x:CV) (hx:XIn L x) (i:Int) (hi64:yE i):
 Calls Tryz.prog 92 #[.pointer (some ⟨r,0,none⟩),.int .i64 i,zJ x] w fun e w'=>e= .returned (.int .i64 (yR kind P s.l i 1 x.c))∧RkP w0 w' L r P kind (jC kind P s i 1 x.c):=by
 obtain ⟨u,pv,l,hpl,hr,hS⟩:=hS;obtain ⟨sl,pre,waste⟩:=s;simp only at hpl hS;subst hpl;have hlen:=hk.len hP;obtain ⟨hn1,hn2,hn3⟩:=hk.nums;have hpo:=hk.pre;simp only [zA] at hlen hn1 hn2 hn3 hpo;have hS1:=(hS.alloc 43 [x.kv,.int .i64 x.c.kind,x.vv,.int .i64 x.c.page,.int .i64 x.c.count]).sw1;have hx':XIn (z7 w.heap.size 43 [x.kv,.int .i64 x.c.kind,x.vv,.int .i64 x.c.page,.int .i64 x.c.count]::L) x:=XIn.app (L1:= [_]) hx;have hx1:=hx'.ok hS1 (fun E hE=>List.mem_cons_of_mem _ hE);have hS2:=hS1.rkOpen;have hrd:=hS2.openRd (u:=u) (l:=l) (by simp) (fun E hE=>by simp [hE]) hr;obtain ⟨U,uc,rfl,hm,hc⟩:=hrd.slice;obtain ⟨PV,pvc,rfl⟩:=Own.slice (show OwB _ 0 pv pre from hS2.tail.tail.head);have hbp:OBlk _ r 118 [.int .i64 kind,.int .i64 (P:Int),.slice U l.length uc,.slice PV pre.length pvc,.int .i64 (waste:Int)]:=hS2.head;obtain ⟨b0,b1,b2,b3,b4⟩:=zC hbp
 by_cases hin:i<0∨(l.length:Int)≤i
 ·have hz:yR kind P (pcs l) i 1 x.c=64:=wL (by rw [zA];omega);have HZ:Hid (jC kind P ⟨pcs l,pre,waste⟩ i 1 x.c=⟨pcs l,pre,waste⟩):=Lib.hid (nG (by show yR kind P (pcs l) i 1 x.c≠0;rw [hz];decide));rw [HZ.out];simp only [hz];have HS:=Lib.hid (hS1.sw1.tail);clear hz hS1 hx1 hrd hbp hS hS2 hx' hk hpo;unfold zJ;rcases hin with h|h
  ·go_enter Tryz.func92,Tryz.ntmps92;go_wp2_with fail;go_ret;exact ⟨rfl,_,_,l,rfl,hr,HS.out⟩
  ·have h':¬i<0:=by omega
   go_enter Tryz.func92,Tryz.ntmps92;go_wp2_with fail;go_ret;exact ⟨rfl,_,_,l,rfl,hr,HS.out⟩
 ·obtain ⟨k,rfl⟩:∃k:Nat,i=(k:Int):=⟨i.toNat,by omega⟩
  have hkl:k+1≤l.length:=by omega
  have hkp:k+1≤(pcs l).length:=by rw [zA];exact hkl
  have hz:yR kind P (pcs l) (k:Int) 1 x.c=k8 kind P (pcs l) k 1 x.c:=oY hkp;have HZN:Hid (k8 kind P (pcs l) k 1 x.c≠0→jC kind P ⟨pcs l,pre,waste⟩ (k:Int) 1 x.c=⟨pcs l,pre,waste⟩):=Lib.hid (fun h=>nG (by show yR kind P (pcs l) (k:Int) 1 x.c≠0;rw [hz];exact h));have HZY:Hid (k8 kind P (pcs l) k 1 x.c=0→jC kind P ⟨pcs l,pre,waste⟩ (k:Int) 1 x.c=pW kind P ⟨pcs l,pre,waste⟩ k 1 x.c):=Lib.hid (fun h=>wO (by show yR kind P (pcs l) (k:Int) 1 x.c=0;rw [hz];exact h));simp only [hz];have HBIG:Hid (zQ kind P x.c=true→xT (zX (pcs l) k 1 x.c)≤10000000000):=Lib.hid (fun h=>tM hk hP h);have HPO:Hid (xI kind pre k 1 x.c=false→PreOk kind (zX (pcs l) k 1 x.c) pre):=Lib.hid (fun h=>mH hpo hkp (by omega) h);have HMAY:Hid (k8 kind P (pcs l) k 1 x.c=0→zQ kind P x.c=true):=Lib.hid (fun h=>(dI h).1);have hC:=fun (W:World) (hW:Sep w0 W _)=>dY (L:=z7 w.heap.size 43 [x.kv,.int .i64 x.c.kind,x.vv,.int .i64 x.c.page,.int .i64 x.c.count]::L) (P:=P) (kind:=kind) (r:=r) (waste:=waste) (u:= .slice U l.length uc) (pv:= .slice PV pre.length pvc) (pre:=pre) (l:=l) hW hr (by omega) x hx' k 1 hkl
  have HOLD:Hid (∀(h:k<l.length) (W:World),l[k].ok W→Calls Tryz.prog 125 #[.int .i64 kind,.int .i64 (k:Int),zJ l[k],.int .i64 (pre.length:Int)] W (fN W (pcF kind k l[k].c pre.length))):=Lib.hid (fun h W hW=>
   bF kind k l[k] pre.length W hW (fun hn=>by
    have h9:=(jH.1 (hpo k (by rw [zA];exact h) hn)).1
    rw [zV h] at h9;exact h9) (by have h8:=qM (hk.ok l[k].c (by show l[k].c∈pcs l;exact List.mem_map_of_mem (List.getElem_mem h))) hP;omega))
  have HOLDB:Hid (∀(h:k<l.length),(pcF kind k l[k].c pre.length).length≤1000000):=Lib.hid (fun h=>by
   have h8:=qM (hk.ok l[k].c (by show l[k].c∈pcs l;exact List.mem_map_of_mem (List.getElem_mem h))) hP;have h9:=iC kind k pre.length (c:=l[k].c) (by omega)
   omega)
  have HOLDE:Hid (∀(h:k<l.length),dN kind ⟨pcs l,pre,waste⟩ k=(pcF kind k l[k].c pre.length).length):=Lib.hid (fun h=>by
   unfold dN;rw [qD (by show k<(pcs l).length;rw [zA];exact h)]
   show (pcF kind k ((pcs l)[k]'(by rw [zA];exact h)) pre.length).length=_
   rw [zV h])
  have HR:=Lib.hid hr;have HXI:=Lib.hid hx'
  have ik0:¬(k:Int)<0:=by omega
  have ik1:¬(l.length:Int)≤(k:Int):=by omega
  clear hz hin hS hS1 hk hpo hrd hx hx' hr hbp;obtain ⟨KA,ka,VA,va,key,ck,val,pg,ct,rfl,-,-⟩:=CV.form hx1;simp only at hC hS2 HBIG HPO HMAY HZN HZY HXI⊢;unfold zJ at hC⊢;simp only at hC⊢;clear hx1;go_enter Tryz.func92,Tryz.ntmps92;go_upto_region 3 with (fail);generalize hW1:w.alloc (.cells #[.slice KA key.length ka,.int .i64 ck,.slice VA val.length va,.int .i64 pg,.int .i64 ct] 43)=w1 at*;obtain ⟨bx,hbx⟩:∃b,w.heap.size=b:=⟨_,rfl⟩;rw [hbx] at hS2 hC HXI⊢;have hC1:=hC w1 hS2;rw [show ((k+1:Nat):Int)=(k:Int)+1 by push_cast;rfl] at hC1
  have e9:IntKind.i64.wrap ((k:Int)+1)=(k:Int)+1:=by rw [IntKind.wrap_i64];omega
  obtain ⟨c0,c1,c2,c3,c4⟩:=zC (show OBlk w1 bx 43 [.slice KA key.length ka,.int .i64 ck,.slice VA val.length va,.int .i64 pg,.int .i64 ct] from hS2.of_mem (E:=z7 bx 43 [.slice KA key.length ka,.int .i64 ck,.slice VA val.length va,.int .i64 pg,.int .i64 ct]) (by simp));clear hW1 hbx hC
  go_upto_region 4 with (first
   |(go_at_call 148;(with_reducible refine hC1.mono ?_);rintro e w3 ⟨A3,d3,⟨ykv,yvv,yc⟩,rfl,hyc,hS3⟩;simp only at hyc;subst hyc;try simp only at hS3;generalize hmm:l.take k++(⟨ykv,yvv,⟨key,ck,val,pg,ct⟩⟩:CV)::l.drop (k+1)=m at*;have HMM:=Lib.hid hmm;clear hmm)
   |fail)
  clear hC1 c0 c1 c2 c3 c4 b0 b1 b2 b3 b4 hS2
  have hrm:RdCs w3 (.slice A3 m.length d3) m:=by
   have h:=RdCs.with8 (v:= .slice A3 m.length d3) (y:=⟨ykv,yvv,⟨key,ck,val,pg,ct⟩⟩) (k:=k) (gone:=1) (l:=l) (by rw [HMM.out];exact hS3) rfl HR.out ⟨HXI.out.r1,HXI.out.r2,HXI.out.r3⟩;rw [HMM.out] at h;exact h
  have HRNG:Hid (RngC m):=Lib.hid (by rw [←HMM.out];exact HR.out.with_ (y:=⟨ykv,yvv,⟨key,ck,val,pg,ct⟩⟩) ⟨HXI.out.r1,HXI.out.r2,HXI.out.r3⟩ _ _);have HPM:Hid (pcs m=zX (pcs l) k 1 ⟨key,ck,val,pg,ct⟩):=Lib.hid (by rw [←HMM.out];exact dE l k 1 ⟨ykv,yvv,⟨key,ck,val,pg,ct⟩⟩)
  have hml:m.length≤l.length+1∧k<m.length:=by
   rw [←HMM.out];simp only [List.length_append,List.length_cons,List.length_take,List.length_drop];omega
  have hmk:∀h:k<m.length,m[k]=(⟨ykv,yvv,⟨key,ck,val,pg,ct⟩⟩:CV):=by
   rw [←HMM.out];exact fun h=>t0 hkl h
  have hRf:=dV (show OBlk w3 r 118 [.int .i64 kind,.int .i64 (P:Int),.slice U l.length uc,.slice PV pre.length pvc,.int .i64 (waste:Int)] from hS3.tail.tail.tail.head) hkd hP _ _ hrm k hml.2 (by omega) (fun h=>by rw [hmk] at h;rw [HPM.out];have:=HBIG.out h;omega);rw [HPM.out,tW hkp] at hRf
  have HCW:Hid (∀{W:World} {M:List Ent},Sep w0 W (zB ykv key::zB yvv val::zP 43 5 (.slice A3 m.length d3) m.length (zF m)::(zG l++M))→Sep w0 W (csE (.slice A3 m.length d3) m::M)):=
   Lib.hid (fun h=>by rw [←HMM.out] at h⊢;exact Sep.csWith (y:=⟨ykv,yvv,⟨key,ck,val,pg,ct⟩⟩) (by omega) hkl rfl h)
  clear hrm hml hmk;generalize hzz:k8 kind P (pcs l) k 1 ⟨key,ck,val,pg,ct⟩=Z at*;have HZQ:=Lib.hid hzz;clear hzz
  go_upto_region 5 with (first
   |(go_at_call 149;(with_reducible refine hRf.mono ?_);rintro e w4 ⟨rfl,hw4⟩)
   |fail)
  have hS4:=hS3.below hw4;clear hRf hS3 hw4
  by_cases hZ:Z=0
  ·subst hZ;have hmy:=HMAY.out rfl;have HBG:=Lib.hid (HBIG.out hmy);have HKP:=Lib.hid (HZY.out rfl);clear hmy HBIG HMAY HZN HZY;have hrdl:RdCs w4 (.slice U l.length uc) l:=hS4.openRd (u:= .slice U l.length uc) (l:=l) (by simp) (fun E hE=>by simp [hE]) HR.out;have hbp4:OBlk w4 r 118 [.int .i64 kind,.int .i64 (P:Int),.slice U l.length uc,.slice PV pre.length pvc,.int .i64 (waste:Int)]:=hS4.tail.tail.tail.head;obtain ⟨b0,b1,b2,b3,b4⟩:=zC hbp4
   have hkl':k<l.length:=by omega
   obtain ⟨ad,rfl,q0,q1,q2,q3,q4⟩:=hrdl.at_ hkl';have hzo:=hrdl.ok _ (List.getElem_mem hkl');have hOld:=fun W hW=>HOLD.out hkl' W hW;have hOK:=HOLDB.out hkl';have hOE:=HOLDE.out hkl';generalize l[k]=z at*;obtain ⟨ZA,za,ZB,zb,zkey,zck,zval,zpg,zct,rfl,-,-⟩:=CV.form hzo;have hb4:=hOld w4.drew (hzo.below ((Below.refl w4.heap.size w4).drew));unfold zJ at hb4;simp only at hb4 q0 q1 q2 q3 q4 hOK hOE;generalize hol:(pcF kind k ⟨zkey,zck,zval,zpg,zct⟩ pre.length)=lold at*;have HOK:=Lib.hid hOK;have HOE:=Lib.hid hOE;clear hrdl hzo hOld hol hOK hOE;go_upto_region 7 with (fail)
   go_cut [9] (fun s wx=>(∃A9 c9,s= .slice A9 lold.length c9)∧Below w4.heap.size w4 wx)
   case first=>
    go_region_held3 (fun w'=>w'.cell? ⟨r,0,none⟩=some (.int .i64 kind)∧w'.cell? ⟨r,2,none⟩=some (.slice (some ad) l.length uc)∧w'.cell? ⟨r,3,none⟩=some (.slice PV pre.length pvc)∧w'.cell? (ad.add (k*5))=some (.slice ZA zkey.length za)∧w'.cell? ⟨(ad.add (k*5)).block,(ad.add (k*5)).off+1,none⟩=some (.int .i64 zck)∧w'.cell? ⟨(ad.add (k*5)).block,(ad.add (k*5)).off+2,none⟩=some (.slice ZB zval.length zb)∧w'.cell? ⟨(ad.add (k*5)).block,(ad.add (k*5)).off+3,none⟩=some (.int .i64 zpg)∧w'.cell? ⟨(ad.add (k*5)).block,(ad.add (k*5)).off+4,none⟩=some (.int .i64 zct))
     (first
      |exact ⟨b0,b2,b3,q0,q1,q2,q3,q4⟩
      |exact ⟨hk5 b0,hk5 b2,hk5 b3,hk5 q0,hk5 q1,hk5 q2,hk5 q3,hk5 q4⟩)
     (first
      |(go_at_call 125;refine hb4.mono ?_;rintro e w5 ⟨v5,rfl,ho5,hw5⟩;obtain ⟨A9,c9,rfl⟩:=Own.slice ho5;have hk5:∀{p:Addr} {y:Value},w4.cell? p=some y→w5.cell? p=some y:=fun {p} {y} h=>(hw5.cell (World.block_lt_of_cell? w4 p h)).trans h)
      |fail)
    go_wp2_with fail;go_meet;exact ⟨⟨A9,c9,rfl⟩,(Below.refl _ _).drew.trans hw5⟩
   case rest=>
    obtain ⟨⟨A9,c9,rfl⟩,hw5⟩:=hcut;have hS4:=hS4.below hw5;clear hb4 hw5 hbp4 b0 b1 b2 b3 b4 q0 q1 q2 q3 q4;have hbp4:OBlk wc r 118 [.int .i64 kind,.int .i64 (P:Int),.slice (some ad) l.length uc,.slice PV pre.length pvc,.int .i64 (waste:Int)]:=hS4.tail.tail.tail.head;obtain ⟨b0,b1,b2,b3,b4⟩:=zC hbp4;have f2:=hbp4.frozen (j:=2) (by simp);go_upto_region 9 with (fail);have hS5:Sep w0 _ (rkB r kind P (.slice A3 m.length d3) (.slice PV pre.length pvc) waste::zB ykv key::zB yvv val::zP 43 5 (.slice A3 m.length d3) m.length (zF m)::zP 43 5 (.slice (some ad) l.length uc) l.length (zF l)::zB (.slice PV pre.length pvc) pre::(zG l++z7 bx 43 [.slice KA key.length ka,.int .i64 ck,.slice VA val.length va,.int .i64 pg,.int .i64 ct]::L)):=(hS4.sw [_,_,_]).setCell 2 (.slice A3 m.length d3);clear hS4 b0 b1 b2 b3 b4 f2 hbp4;generalize wc.setCell ⟨r,2,none⟩ (.slice A3 m.length d3)=w6 at*;have hbp4:OBlk w6 r 118 [.int .i64 kind,.int .i64 (P:Int),.slice A3 m.length d3,.slice PV pre.length pvc,.int .i64 (waste:Int)]:=hS5.head;obtain ⟨b0,b1,b2,b3,b4⟩:=zC hbp4;have f4:=hbp4.frozen (j:=4) (by simp);have hlb:lold.length≤1000000:=HOK.out;have HOL:Hid (dN kind ⟨pcs l,pre,waste⟩ k=lold.length):=HOE;obtain ⟨old,hold⟩:∃old,lold.length=old:=⟨_,rfl⟩;rw [hold] at HOL hlb⊢
    have e1:IntKind.i64.wrap ((waste:Int)+(old:Int))=(waste:Int)+(old:Int):=by rw [IntKind.wrap_i64];omega
    clear hold HOE HOK hbp4;go_upto_region 10 with (fail);have hS5:Sep w0 _ (rkB r kind P (.slice A3 m.length d3) (.slice PV pre.length pvc) (waste+old)::zB ykv key::zB yvv val::zP 43 5 (.slice A3 m.length d3) m.length (zF m)::zP 43 5 (.slice (some ad) l.length uc) l.length (zF l)::zB (.slice PV pre.length pvc) pre::(zG l++z7 bx 43 [.slice KA key.length ka,.int .i64 ck,.slice VA val.length va,.int .i64 pg,.int .i64 ct]::L)):=hS5.setCell 4 (.int .i64 ((waste+old:Nat):Int));clear b0 b1 b2 b3 b4 f4 e1;rw [show ((waste:Int)+(old:Int))=((waste+old:Nat):Int) by push_cast;rfl];generalize w6.setCell ⟨r,4,none⟩ (.int .i64 ((waste+old:Nat):Int))=w5 at*;have hS5b:Sep w0 w5 (zB ykv key::zB yvv val::zP 43 5 (.slice A3 m.length d3) m.length (zF m)::rkB r kind P (.slice A3 m.length d3) (.slice PV pre.length pvc) (waste+old)::zB (.slice PV pre.length pvc) pre::(zG l++z7 bx 43 [.slice KA key.length ka,.int .i64 ck,.slice VA val.length va,.int .i64 pg,.int .i64 ct]::L)):=Sep.pick (L:= [_,_,_,_,_,_]) [1,2,3,0,5] (by decide) rfl hS5;have hS6:Sep w0 w5 (csE (.slice A3 m.length d3) m::rkB r kind P (.slice A3 m.length d3) (.slice PV pre.length pvc) (waste+old)::zB (.slice PV pre.length pvc) pre::z7 bx 43 [.slice KA key.length ka,.int .i64 ck,.slice VA val.length va,.int .i64 pg,.int .i64 ct]::L):=HCW.out hS5b.push2c;have hS7:=hS6.sw1;clear hS6 hS5 hS5b HCW
    obtain ⟨c0,c1,c2,c3,c4⟩:=zC (show OBlk w5 bx 43 [.slice KA key.length ka,.int .i64 ck,.slice VA val.length va,.int .i64 pg,.int .i64 ct] from hS7.of_mem (E:=z7 bx 43 [.slice KA key.length ka,.int .i64 ck,.slice VA val.length va,.int .i64 pg,.int .i64 ct]) (by simp));have hrk:RdB w5 (.slice KA key.length ka) key:=(HXI.out.ok hS7 (fun E hE=>by simp only [List.mem_cons] at hE⊢;rcases hE with rfl|hE;exact .inr (.inr (.inr (.inl rfl)));exact .inr (.inr (.inr (.inr hE))))).k;have hBg:=mN (p8 hS7 HRNG.out) _ key hrk;obtain ⟨bg,hbg⟩:∃bg,jG key pre=bg:=⟨_,rfl⟩;have HBGN:=Lib.hid hbg;rw [hbg] at hBg;clear hbg hrk
    go_upto_region 11 with (first
     |(go_at_call 150;(with_reducible refine hBg.mono ?_);rintro e w6 ⟨rfl,hw6⟩)
     |fail)
    have hS8:=hS7.below hw6;clear hBg hS7 hw6 c0 c1 c2 c3 c4;have HAT:=Lib.hid (p8 hS8 HRNG.out)
    have hbm:xT (pcs m)≤100000000000000:=by rw [HPM.out];have:=HBG.out;omega
    have HBM:=Lib.hid hbm;have HFS:=Lib.hid (pI HAT.out hbm (by omega) hP (by omega))
    have HFE:Hid (xI kind pre k 1 ⟨key,ck,val,pg,ct⟩=false→Calls Tryz.prog 151 #[.pointer (some ⟨r,0,none⟩)] w6 fun e w'=>e= .returned (.bool (decide (P<z5 kind (zX (pcs l) k 1 ⟨key,ck,val,pg,ct⟩) pre.length+(waste+old))))∧Below w6.heap.size w6 w'):=Lib.hid (fun h=>by
     have h1:=HPO.out h
     have h2:=rJ HAT.out hbm (by omega) hP (by omega) (fun i hi hn=>by
      have h3:=HPM.out
      have h4:i<(zX (pcs l) k 1 ⟨key,ck,val,pg,ct⟩).length:=by rw [←h3];exact hi
      have h5:=(jH.1 (h1 i h4 hn)).1
      have h6:(pcs m)[i]=(zX (pcs l) k 1 ⟨key,ck,val,pg,ct⟩)[i]:=by congr 1
      rw [h6];exact h5) (by have h7:=bM kind pre.length (pcs m) (pcs m).length (by omega);rw [List.take_length] at h7;omega)
     rw [HPM.out] at h2
     exact h2)
    have hln:m.length≤65536:=by
     have h1:(pcs m).length=m.length:=zA m;rw [HPM.out] at h1;unfold zX at h1;simp only [List.length_append,List.length_cons,List.length_take,List.length_drop,zA] at h1;omega
    have HT:Hid (∀W,Sep w0 W (rkB r kind P (.slice A3 m.length d3) (.slice PV pre.length pvc) (waste+old)::csE (.slice A3 m.length d3) m::zB (.slice PV pre.length pvc) pre::z7 bx 43 [.slice KA key.length ka,.int .i64 ck,.slice VA val.length va,.int .i64 pg,.int .i64 ct]::L)→Calls Tryz.prog 86 #[.pointer (some ⟨r,0,none⟩)] W fun e w'=>(∃x,e= .returned x)∧RkP w0 w' L r P kind (jI kind (zX (pcs l) k 1 ⟨key,ck,val,pg,ct⟩))):=Lib.hid (fun W hW=>by
     refine (b7 hW (l:=m) (u:= .slice A3 m.length d3) (fun V hV=>qA (hV (csE (.slice A3 m.length d3) m) (by simp)) HRNG.out) hln hbm).mono ?_;rintro e w' ⟨h1,pv',h2⟩;rw [HPM.out] at h2;refine ⟨h1,.slice A3 m.length d3,pv',m,HPM.out,HRNG.out,?_⟩
     exact (Sep.pick (L:= [_,_,_,_,_]) [0,2,1] (by decide) rfl h2).rkShut)
    clear hbm hln HAT HBM
    have hput:pW kind P ⟨pcs l,pre,waste⟩ k 1 ⟨key,ck,val,pg,ct⟩=xU kind P pre (zX (pcs l) k 1 ⟨key,ck,val,pg,ct⟩) (waste+old) (xI kind pre k 1 ⟨key,ck,val,pg,ct⟩):=by
     have e:cR kind ⟨pcs l,pre,waste⟩ k 1=waste+old:=by unfold cR;rw [if_neg (by decide),HOL.out]
     unfold pW;rw [e]
    have HKC:=Lib.hid (HKP.out.trans hput);clear hput
    cases bg with
    |true=>
     have han:xI kind pre k 1 ⟨key,ck,val,pg,ct⟩=false:=by unfold xI vZ;rw [if_neg (by decide),HBGN.out,Bool.not_true,Bool.and_false]
     have HAN:=Lib.hid han;clear HBGN han;have hFE:=HFE.out HAN.out;clear HFS HFE
     by_cases hfu:P<z5 kind (zX (pcs l) k 1 ⟨key,ck,val,pg,ct⟩) pre.length+(waste+old)
     ·rw [decide_eq_true hfu] at hFE;have HFU:=Lib.hid hfu;clear hfu
      go_upto_region 12 with (first
       |(go_at_call 151;(with_reducible refine hFE.mono ?_);rintro e w7 ⟨rfl,hw7⟩)
       |fail)
      have hS9:=hS8.below hw7;obtain ⟨b0,b1,b2,b3,b4⟩:=zC (show OBlk w7 r 118 [.int .i64 kind,.int .i64 (P:Int),.slice A3 m.length d3,.slice PV pre.length pvc,.int .i64 (((waste+old):Nat):Int)] from hS9.head);clear hS8 hw7 hFE
      go_wp2_with (first
       |(go_at_call 86;(with_reducible refine (HT.out _ hS9).mono ?_);rintro e w8 ⟨⟨_,rfl⟩,hQ⟩)
       |fail)
      go_ret;exact ⟨by rw [HZQ.out];rfl,by rw [HKC.out,jP (.inr HFU.out)];exact hQ⟩
     ·rw [decide_eq_false hfu] at hFE;have HFU:=Lib.hid hfu;clear hfu
      go_upto_region 12 with (first
       |(go_at_call 151;(with_reducible refine hFE.mono ?_);rintro e w7 ⟨rfl,hw7⟩)
       |fail)
      have hS9:=hS8.below hw7;obtain ⟨b0,b1,b2,b3,b4⟩:=zC (show OBlk w7 r 118 [.int .i64 kind,.int .i64 (P:Int),.slice A3 m.length d3,.slice PV pre.length pvc,.int .i64 (((waste+old):Nat):Int)] from hS9.head);have HS9:=Lib.hid (Sep.pick (L:= [_,_,_,_]) [0,1,2] (by decide) rfl hS9);clear hS8 hw7 hFE hS9;go_wp2_with fail;go_ret;exact ⟨by rw [HZQ.out];rfl,by rw [HKC.out,HAN.out,bZ HFU.out];exact ⟨_,_,m,HPM.out,HRNG.out,HS9.out.rkShut⟩⟩
    |false=>
     have hcs:(kind=3∧k=0)∨(kind≠3)∨(kind=3∧k≠0):=by omega
     rcases hcs with ⟨h3,h0⟩|h3|⟨h3,h0⟩
     ·have han:xI kind pre k 1 ⟨key,ck,val,pg,ct⟩=false:=by unfold xI vZ;rw [if_neg (by decide),decide_eq_true ⟨h3,h0⟩];rfl
      have e3:(kind !=3)=false:=by rw [h3];decide
      have e0:¬(0:Int)<(k:Int):=by omega
      have HAN:=Lib.hid han;clear h3 h0 HBGN han;have hFE:=HFE.out HAN.out;clear HFS HFE
      by_cases hfu:P<z5 kind (zX (pcs l) k 1 ⟨key,ck,val,pg,ct⟩) pre.length+(waste+old)
      ·rw [decide_eq_true hfu] at hFE;have HFU:=Lib.hid hfu;clear hfu
       go_upto_region 12 with (first
        |(go_at_call 151;(with_reducible refine hFE.mono ?_);rintro e w7 ⟨rfl,hw7⟩)
        |fail)
       have hS9:=hS8.below hw7;obtain ⟨b0,b1,b2,b3,b4⟩:=zC (show OBlk w7 r 118 [.int .i64 kind,.int .i64 (P:Int),.slice A3 m.length d3,.slice PV pre.length pvc,.int .i64 (((waste+old):Nat):Int)] from hS9.head);clear hS8 hw7 hFE
       go_wp2_with (first
        |(go_at_call 86;(with_reducible refine (HT.out _ hS9).mono ?_);rintro e w8 ⟨⟨_,rfl⟩,hQ⟩)
        |fail)
       go_ret;exact ⟨by rw [HZQ.out];rfl,by rw [HKC.out,jP (.inr HFU.out)];exact hQ⟩
      ·rw [decide_eq_false hfu] at hFE;have HFU:=Lib.hid hfu;clear hfu
       go_upto_region 12 with (first
        |(go_at_call 151;(with_reducible refine hFE.mono ?_);rintro e w7 ⟨rfl,hw7⟩)
        |fail)
       have hS9:=hS8.below hw7;obtain ⟨b0,b1,b2,b3,b4⟩:=zC (show OBlk w7 r 118 [.int .i64 kind,.int .i64 (P:Int),.slice A3 m.length d3,.slice PV pre.length pvc,.int .i64 (((waste+old):Nat):Int)] from hS9.head);have HS9:=Lib.hid (Sep.pick (L:= [_,_,_,_]) [0,1,2] (by decide) rfl hS9);clear hS8 hw7 hFE hS9;go_wp2_with fail;go_ret;exact ⟨by rw [HZQ.out];rfl,by rw [HKC.out,HAN.out,bZ HFU.out];exact ⟨_,_,m,HPM.out,HRNG.out,HS9.out.rkShut⟩⟩
     ·have han:xI kind pre k 1 ⟨key,ck,val,pg,ct⟩=true:=by unfold xI vZ;rw [if_neg (by decide),decide_eq_false (fun e=>h3 e.1),HBGN.out];rfl
      have e3:(kind !=3)=true:=bne_iff_ne.2 h3;have HAN:=Lib.hid han;clear h3 HBGN han
      go_upto_region 12 with (first
       |(go_at_call 151;(with_reducible refine HFS.out.mono ?_);rintro e w7 ⟨q,rfl,hw7⟩)
       |fail)
      have hS9:=hS8.below hw7;obtain ⟨b0,b1,b2,b3,b4⟩:=zC (show OBlk w7 r 118 [.int .i64 kind,.int .i64 (P:Int),.slice A3 m.length d3,.slice PV pre.length pvc,.int .i64 (((waste+old):Nat):Int)] from hS9.head);clear hS8 hw7 HFS HFE
      go_wp2_with (first
       |(go_at_call 86;(with_reducible refine (HT.out _ hS9).mono ?_);rintro e w8 ⟨⟨_,rfl⟩,hQ⟩)
       |fail)
      go_ret;exact ⟨by rw [HZQ.out];rfl,by rw [HKC.out,jP (.inl HAN.out)];exact hQ⟩
     ·have han:xI kind pre k 1 ⟨key,ck,val,pg,ct⟩=true:=by unfold xI vZ;rw [if_neg (by decide),decide_eq_false (fun e=>h0 e.2),HBGN.out];rfl
      have e3:(kind !=3)=false:=by rw [h3];decide
      have e0:(0:Int)<(k:Int):=by omega
      have HAN:=Lib.hid han;clear h3 h0 HBGN han
      go_upto_region 12 with (first
       |(go_at_call 151;(with_reducible refine HFS.out.mono ?_);rintro e w7 ⟨q,rfl,hw7⟩)
       |fail)
      have hS9:=hS8.below hw7;obtain ⟨b0,b1,b2,b3,b4⟩:=zC (show OBlk w7 r 118 [.int .i64 kind,.int .i64 (P:Int),.slice A3 m.length d3,.slice PV pre.length pvc,.int .i64 (((waste+old):Nat):Int)] from hS9.head);clear hS8 hw7 HFS HFE
      go_wp2_with (first
       |(go_at_call 86;(with_reducible refine (HT.out _ hS9).mono ?_);rintro e w8 ⟨⟨_,rfl⟩,hQ⟩)
       |fail)
      go_ret;exact ⟨by rw [HZQ.out];rfl,by rw [HKC.out,jP (.inl HAN.out)];exact hQ⟩
  ·have hzn:(Z !=0)=true:=by simp only [bne,beq_eq_false_iff_ne.2 hZ];rfl
   have HKN:=Lib.hid (HZN.out hZ);have HS9:=Lib.hid (hS4.tail.tail.tail.rkClose.sw1.tail);clear hZ hS4 HZY HZN;go_wp2_with fail;go_ret;exact ⟨by rw [HZQ.out];rfl,by rw [HKN.out];exact ⟨_,_,l,rfl,HR.out,HS9.out⟩⟩
end Go.Proofs.YtfcnkpofcekmgaaGreat
