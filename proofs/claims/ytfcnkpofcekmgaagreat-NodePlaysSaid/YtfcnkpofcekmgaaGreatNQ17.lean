/- Texts joined. -/
import Derived.Test.YtfcnkpofcekmgaaGreatNQ16
set_option maxRecDepth 100000
set_option maxHeartbeats 64000000
namespace Go.Proofs.YtfcnkpofcekmgaaGreat
open Go.RowKit
section
variable {w0 w:World} {L:List Ent} {p P used waste ug:Nat} {kind:Int} {U PV N B:Option Addr} {uc pvc n3 c7:Nat} {l:List CV} {pre:List UInt8}
def qQ (p P used waste:Nat) (kind:Int) (U PV:Option Addr) (uc pvc:Nat) (l:List CV) (pre:List UInt8) (L:List Ent):List Ent:=
 pkB p kind P (.slice U l.length uc) (.slice PV pre.length pvc) used waste::zP 43 5 (.slice U l.length uc) l.length (zF l)::zB (.slice PV pre.length pvc) pre::(zG l++L)
def zGM (w:World) (p P used waste:Nat) (kind:Int) (U PV:Option Addr) (uc pvc:Nat) (l:List CV) (pre:List UInt8):Prop:=
 w.cell? ⟨p,0,none⟩=some (.int .i64 kind)∧w.cell? ⟨p,1,none⟩=some (.int .i64 (P:Int))∧w.cell? ⟨p,2,none⟩=some (.slice U l.length uc)∧w.cell? ⟨p,3,none⟩=some (.slice PV pre.length pvc)∧w.cell? ⟨p,4,none⟩=some (.int .i64 (used:Int))∧w.cell? ⟨p,5,none⟩=some (.int .i64 (waste:Int))
theorem eP {M:List Ent} (h:Sep w0 w (M++qQ p P used waste kind U PV uc pvc l pre L)):zGM w p P used waste kind U PV uc pvc l pre:=
 yZ (T:=150) (h.of_mem (E:=pkB p kind P (.slice U l.length uc) (.slice PV pre.length pvc) used waste) (by simp [qQ]))
theorem rd6 {M:List Ent} (h:Sep w0 w (M++qQ p P used waste kind U PV uc pvc l pre L)) (hr:RngC l):RdCs w (.slice U l.length uc) l:=
 h.openRd (by simp [qQ]) (fun E hE=>by simp [qQ,hE]) hr
theorem zDF {M:List Ent} (h:Sep w0 w (M++qQ p P used waste kind U PV uc pvc l pre L)) (hr:RngC l) (hl:l.length≤1000000):
 Calls Tryz.prog 229 #[.slice U l.length uc] w fun e w'=>∃N n3,e= .returned (.slice N l.length n3)∧Sep w0 w' ((zP 43 5 (.slice N l.length n3) l.length (zF l)::M)++qQ p P used waste kind U PV uc pvc l pre L):=by
 refine (rR h _ l (rd6 h hr) hl).mono ?_;rintro e w' ⟨v,rfl,hS⟩;obtain ⟨N,n3,rfl⟩:=Own.slice (lE hS);exact ⟨N,n3,rfl,hS⟩
theorem zIK (h:Sep w0 w (zP 43 5 (.slice N l.length n3) l.length (zF l)::qQ p P used waste kind U PV uc pvc l pre L)) (hr:RngC l) (hl:l.length≤1000000) (k:Nat) (hk:k<l.length):
 Calls Tryz.prog 210 #[.slice N l.length n3,.int .i64 (k:Int),.int .i64 ((k:Int)+1)] w fun e w'=>∃B c7,e= .returned (.slice B (l.length-1) c7)∧Sep w0 w' (zP 43 5 (.slice B (l.length-1) c7) (l.length-1) (zF (l.take k++l.drop (k+1)))::qQ p P used waste kind U PV uc pvc l pre L):=by
 have hD:=pF (w:=w) (u:= .slice N l.length n3) (l:=l) h.head (vB (rd6 (M:= [_]) h hr).ok) (by omega) k hk;refine hD.mono ?_;intro e w7 hI7;obtain ⟨v7,rfl,hS7⟩:=Sep.insAt h hI7
 have hlN:(l.take k++l.drop (k+1)).length=l.length-1:=by simp only [List.length_append,List.length_take,List.length_drop];omega
 rw [hlN] at hS7;obtain ⟨B7,c7,rfl⟩:=Own.slice (lE hS7);exact ⟨B7,c7,rfl,hS7⟩
end
theorem sC {l:List CV} {k:Nat} (hk:k<l.length) {E:Ent} (h:E∈zG (l.take k++l.drop (k+1))):E∈zG l:=by
 rw [xM] at h;rw [qC l k,gY l hk];simp only [List.mem_append,List.mem_cons] at h⊢;rcases h with h|h
 ·exact .inl h
 ·exact .inr (.inr (.inr h))
theorem zHI {kind:Int} {P:Nat} {s:KP} (h:KInv kind P s) (hP:P≤65536) (i:Nat):xT (s.l.take i++s.l.drop (i+1))≤140737488355328:=by
 have h1:=gD (P:=P) hP (l:=s.l.take i++s.l.drop (i+1)) (fun d hd=>h.ok d (zBN hd));have h2:=h.len hP
 have h3:(s.l.take i++s.l.drop (i+1)).length≤s.l.length:=by simp only [List.length_append,List.length_take,List.length_drop];omega
 omega
theorem mS (l:List CV) (i:Nat):pcs (l.take i++l.drop (i+1))=(pcs l).take i++(pcs l).drop (i+1):=rC l i
theorem aP {w0 w:World} {L:List Ent} {p P:Nat} {kind:Int} {s:KP} (hS:PgK w0 w L p P kind s) (hk:KInv kind P s) (hP:P≤65536) (i:Int) (hi64:yE i):
 Calls Tryz.prog 222 #[.pointer (some ⟨p,0,none⟩),.int .i64 i] w (bC w0 L p P kind (vW kind P s.l i) (vY kind P s i)):=by
 obtain ⟨u,pv,l,hpl,hr,hS⟩:=hS;obtain ⟨sl,pre,waste⟩:=s;simp only at hpl;subst hpl;have hlen:=hk.len hP;obtain ⟨hn1,hn2,hn3⟩:=hk.nums;simp only [zA] at hlen hn1 hn2 hn3;have hS0:=hS.pkOpen;have hrd:=hS0.openRd (u:=u) (l:=l) (by simp) (fun E hE=>by simp [hE]) hr;obtain ⟨U,uc,rfl,hm,hc⟩:=hrd.slice;have hpw:=(show OwB _ 0 pv pre from hS0.tail.tail.head);obtain ⟨PV,pvc,rfl⟩:=Own.slice hpw;obtain ⟨used,hus⟩:∃used,vF kind ⟨pcs l,pre,waste⟩=used:=⟨_,rfl⟩;have HUS:=Lib.hid hus;simp only [hus] at hS0 hn1
 have hfin:∀w',Sep w0 w' (qQ p P used waste kind U PV uc pvc l pre L)→PgK w0 w' L p P kind ⟨pcs l,pre,waste⟩:=fun w' h=>
  ⟨.slice U l.length uc,.slice PV pre.length pvc,l,rfl,hr,by rw [HUS.out];exact Sep.pkClose h⟩
 have HF:=Lib.hid hfin;have hA0:Sep w0 w ([]++qQ p P used waste kind U PV uc pvc l pre L):=hS0;clear hpw hfin hrd hS hS0;obtain ⟨b0,b1,b2,b3,b4,b5⟩:=eP hA0
 by_cases hin:i<0∨(l.length:Int)≤i
 ·have hz:vW kind P (pcs l) i=64:=if_pos (by rw [zA];omega);have hz2:vY kind P ⟨pcs l,pre,waste⟩ i=⟨pcs l,pre,waste⟩:=if_neg (by show ¬vW kind P (pcs l) i=0;rw [hz];decide)
  show Calls Tryz.prog _ _ w (bC w0 L p P kind (vW kind P (pcs l) i) _)
  rw [hz,hz2];clear hz hz2 hus hk;rcases hin with h|h
  ·go_enter Tryz.func222,Tryz.ntmps222;go_wp2_with fail;go_ret;exact ⟨rfl,HF.out _ hA0⟩
  ·have h':¬i<0:=by omega
   go_enter Tryz.func222,Tryz.ntmps222;go_wp2_with fail;go_ret;exact ⟨rfl,HF.out _ hA0⟩
 ·obtain ⟨k,rfl⟩:∃k:Nat,i=(k:Int):=⟨i.toNat,by omega⟩
  have hkl:k<l.length:=by omega
  have hkp:k<(pcs l).length:=by rw [zA];exact hkl
  obtain ⟨old,hold⟩:∃old,(pcF kind k l[k].c pre.length).length=old:=⟨_,rfl⟩
  have hgd:(pcs l).getD k bL=l[k].c:=by rw [←zV hkl];simp [List.getD,hkp]
  have hold2:dN kind ⟨pcs l,pre,waste⟩ k=old:=by unfold dN;rw [←hold];show (pcF kind k ((pcs l).getD k bL) pre.length).length=_;rw [hgd]
  have holdP:2+old≤used:=by
   have h1:=mI (kind:=kind) hkp pre.length
   have h3:(pcF kind k l[k].c pre.length).length+pre.length+12≤z5 kind (pcs l) pre.length:=by
    have e:pcs l=(pcs l).take k++((pcs l)[k]::(pcs l).drop (k+1)):=by rw [←List.drop_eq_getElem_cons hkp,List.take_append_drop]
    have h1:=congrArg (fun x=>(zN kind pre.length 0 x).length) e;simp only [xN,zN,List.length_append] at h1
    have h2:((pcs l).take k).length=k:=by rw [List.length_take];omega
    rw [h2,Nat.zero_add,zV hkl] at h1;unfold z5;omega
   rw [hold] at h3;have h4:z5 kind (pcs l) pre.length=used:=hus;omega
  have hrl:vW kind P (pcs l) (k:Int)=if kind=3∧k=0∧P<zS kind (pcs (l.take k++l.drop (k+1))) then 61 else 0:=by
   unfold vW;rw [if_neg (by rw [zA];omega),mS,Int.toNat_natCast]
   by_cases h0:k=0
   ·subst h0;simp
   ·rw [if_neg (by omega),if_neg (fun h=>h0 h.2.1)]
  have hrs:¬(kind=3∧k=0∧P<zS kind (pcs (l.take k++l.drop (k+1))))→vY kind P ⟨pcs l,pre,waste⟩ (k:Int)=if kind=3∧k=0∨pcs (l.take k++l.drop (k+1))= [] then jI kind (pcs (l.take k++l.drop (k+1))) else ⟨pcs (l.take k++l.drop (k+1)),pre,waste+old⟩:=fun h=>by
   unfold vY;rw [if_pos (by show vW kind P (pcs l) (k:Int)=0;rw [hrl,if_neg h]),Int.toNat_natCast];unfold wN
   show (if kind=3∧k=0∨(pcs l).take k++(pcs l).drop (k+1)= [] then jI kind ((pcs l).take k++(pcs l).drop (k+1)) else ⟨(pcs l).take k++(pcs l).drop (k+1),pre,waste+dN kind ⟨pcs l,pre,waste⟩ k⟩)=_
   rw [hold2,←mS]
  have hrn:kind=3∧k=0∧P<zS kind (pcs (l.take k++l.drop (k+1)))→vY kind P ⟨pcs l,pre,waste⟩ (k:Int)=⟨pcs l,pre,waste⟩:=fun h=>by
   unfold vY;rw [if_neg (by show ¬vW kind P (pcs l) (k:Int)=0;rw [hrl,if_pos h];decide)]
  have hbig:xT (pcs (l.take k++l.drop (k+1)))≤140737488355328:=by rw [mS];exact zHI hk hP k
  have htr:¬(kind=3∧k=0)→z5 kind (pcs (l.take k++l.drop (k+1))) pre.length=used-(2+old):=fun h=>by
   have:=nV (kind:=kind) (n:=pre.length) hkp h
   rw [←mS,zV hkl,hold] at this;have h4:z5 kind (pcs l) pre.length=used:=hus;omega
  have hlen5:∀W,CV.ok W l[k]→Calls Tryz.prog 168 #[.int .i64 kind,.int .i64 (k:Int),zJ l[k],.int .i64 (pre.length:Int)] W fun e w'=>e= .returned (.int .i64 (old:Int))∧Below W.heap.size W w':=fun W hW=>by
   have h1:=qM (hk.ok l[k].c (by show l[k].c∈pcs l;rw [←zV hkl];exact List.getElem_mem hkp)) hP
   have:=f6 kind k l[k] pre.length W hW (fun hn=>by have:=(jH.1 (hk.pre k hkp hn)).1;rw [show (KP.l ⟨pcs l,pre,waste⟩)[k]=l[k].c from zV hkl] at this;exact this) (by omega)
   rw [hold] at this;exact this
  show Calls Tryz.prog _ _ w (bC w0 L p P kind (vW kind P (pcs l) (k:Int)) _)
  rw [hrl];have hrr:RngC (l.take k++l.drop (k+1)):=hr.rem k (k+1)
  have hlN:(l.take k++l.drop (k+1)).length=l.length-1:=by simp only [List.length_append,List.length_take,List.length_drop];omega
  have hpk:∀(i:Nat) (hi:i<(pcs (l.take k++l.drop (k+1))).length),¬(kind=3∧i=0)→zD kind (pcs (l.take k++l.drop (k+1)))≤(pcs (l.take k++l.drop (k+1)))[i].key.length:=fun i hi hn=>(xS (kind:=kind) hi hn).1
  have hsb:zD kind (pcs (l.take k++l.drop (k+1)))≤140737488355328:=by
   rcases Nat.eq_zero_or_pos (zD kind (pcs (l.take k++l.drop (k+1)))) with h|h
   ·omega
   ·obtain ⟨i,hi,hn⟩:=jN h;have h1:=hpk i hi hn;have h2:=bO (List.getElem_mem hi);omega
  have hrow:∀(W:World) (B:Option Addr) (c7:Nat),Sep w0 W (zP 43 5 (.slice B (l.length-1) c7) (l.length-1) (zF (l.take k++l.drop (k+1)))::qQ p P used waste kind U PV uc pvc l pre L)→RdCs W (.slice B (l.length-1) c7) (l.take k++l.drop (k+1)):=fun W B c7 h=>
   h.openRd (by rw [hlN];exact List.mem_cons_self ..) (fun E hE=>by simp [qQ,sC hkl hE]) hrr
  have hsh:∀(W:World) (B:Option Addr) (c7:Nat),Sep w0 W (zP 43 5 (.slice B (l.length-1) c7) (l.length-1) (zF (l.take k++l.drop (k+1)))::qQ p P used waste kind U PV uc pvc l pre L)→Calls Tryz.prog 139 #[.int .i64 kind,.slice B (l.length-1) c7] W fun e w'=>e= .returned (.int .i64 (zD kind (pcs (l.take k++l.drop (k+1))):Nat))∧Below W.heap.size W w':=fun W B c7 h=>g9 kind _ _ W (hrow W B c7 h);have htk:∀(W:World) (B:Option Addr) (c7:Nat),Sep w0 W (zP 43 5 (.slice B (l.length-1) c7) (l.length-1) (zF (l.take k++l.drop (k+1)))::qQ p P used waste kind U PV uc pvc l pre L)→Calls Tryz.prog 138 #[.int .i64 kind,.slice B (l.length-1) c7,.int .i64 (zD kind (pcs (l.take k++l.drop (k+1))):Nat)] W fun e w'=>e= .returned (.int .i64 (zS kind (pcs (l.take k++l.drop (k+1))):Nat))∧Below W.heap.size W w':=fun W B c7 h=>gB kind _ _ _ W (hrow W B c7 h) (by omega) (by omega) hpk;have hcsin:∀(B:Option Addr) (c7:Nat),CsIn (zP 43 5 (.slice B (l.length-1) c7) (l.length-1) (zF (l.take k++l.drop (k+1)))::zP 43 5 (.slice U l.length uc) l.length (zF l)::zB (.slice PV pre.length pvc) pre::(zG l++L)) (.slice B (l.length-1) c7) (l.take k++l.drop (k+1)):=fun B c7=>lU (by rw [hlN];exact List.mem_cons_self ..) (fun E hE=>by simp [sC hkl hE]) hrr
  have hshut:∀(W:World) (B:Option Addr) (c7 us ws:Nat) (pv':Value) (pre':List UInt8),Sep w0 W (pkB p kind P (.slice B (l.length-1) c7) pv' us ws::zB pv' pre'::zP 43 5 (.slice B (l.length-1) c7) (l.length-1) (zF (l.take k++l.drop (k+1)))::(zG l++L))→Sep w0 W (pkE p kind P (.slice B (l.length-1) c7) pv' us ws (l.take k++l.drop (k+1)) pre'::L):=fun W B c7 us ws pv' pre' h=>by
   have h2:Sep w0 W (zP 43 5 (.slice B (l.length-1) c7) (l.length-1) (zF (l.take k++l.drop (k+1)))::(zG l++pkB p kind P (.slice B (l.length-1) c7) pv' us ws::zB pv' pre'::L)):=(Sep.sw2 h).perm ((List.perm_append_comm_assoc [_,_] (zG l) L).cons _);exact Sep.pkShut (Sep.sw1 (Sep.csDel hlN hkl h2))
  have HSH0:=Lib.hid hsh;have HTK0:=Lib.hid htk;have HSHUT:=Lib.hid hshut;have HCSIN:=Lib.hid hcsin;have HRS:=Lib.hid hrs;have HRN:=Lib.hid hrn;have HTR:=Lib.hid htr;have HPLN:Hid (pcs (l.take k++l.drop (k+1))= []↔l.length=1):=Lib.hid ⟨fun h=>by have:=congrArg List.length h;rw [zA,hlN] at this;simp at this;omega,fun h=>List.eq_nil_of_length_eq_zero (by rw [zA,hlN];omega)⟩;have hTD:=fun (W:World) (B:Option Addr) (c7 us ws:Nat) (pv2:Value) (h:Sep w0 W (pkB p kind P (.slice B (l.length-1) c7) pv2 us ws::_))=>nI h (hcsin B c7) hbig;have HTD:=Lib.hid hTD;have HBIG:=Lib.hid hbig;clear hsh htk hshut hcsin hrs hrn htr hTD hrow hpk hrl hgd hold2 hus hlN hrr hsb;have HUTT:Hid (vF kind (jI kind (pcs (l.take k++l.drop (k+1))))=zS kind (pcs (l.take k++l.drop (k+1)))):=Lib.hid (bS _ _);have HUTN:Hid (vF kind ⟨pcs (l.take k++l.drop (k+1)),pre,waste+old⟩=z5 kind (pcs (l.take k++l.drop (k+1))) pre.length):=Lib.hid rfl;generalize vY kind P ⟨pcs l,pre,waste⟩ (k:Int)=SS at*;have hzw:=(rd6 hA0 hr).ok _ (List.getElem_mem hkl);obtain ⟨ug,rfl⟩:=Own.some5 (show Own w 0 43 5 (.slice U l.length uc) l.length (zF l) from hA0.tail.head) (by omega)
  have hfo:∀(W:World),Sep w0 W ([]++qQ p P used waste kind (some ⟨ug,0,none⟩) PV uc pvc l pre L)→zCE W ug k l[k]:=fun W h=>by
   obtain ⟨ad,hUad,q0,q1,q2,q3,q4⟩:=(rd6 h hr).at_ hkl;obtain rfl:ad=⟨ug,0,none⟩:=(Option.some.inj hUad).symm;simp only [vH,Nat.zero_add] at q0 q1 q2 q3 q4;exact ⟨q0,q1,q2,q3,q4⟩
  have hzok:CV.ok w.drew l[k]:=(rd6 hA0.drew hr).ok _ (List.getElem_mem hkl);have hl5:=hlen5 w.drew hzok;have HLN:=Lib.hid (show (l.take k++l.drop (k+1)).length=l.length-1 by simp only [List.length_append,List.length_take,List.length_drop];omega);generalize hlp:l.take k++l.drop (k+1)=lr at*;have HLR:=Lib.hid hlp;clear hlp hlen5 hold;generalize l[k]=z at*;obtain ⟨ZK,zk,ZV,zv,zkey,zck,zval,zpg,zct,rfl,-,-⟩:=CV.form hzw;unfold zJ at hl5;simp only at hl5;generalize zS kind (pcs lr)=ps at*
  have i1:¬(k:Int)<0:=by omega
  have i2:¬(l.length:Int)≤(k:Int):=by omega
  have i3:(k:Int)<(l.length:Int):=by omega
  have i4:IntKind.i64.wrap ((k:Int)+1)=(k:Int)+1:=by rw [IntKind.wrap_i64];omega
  have i5:(0:Int)≤(k:Int):=by omega
  obtain ⟨ZQ,hZQ⟩:∃Z:Int,(if kind=3∧k=0∧P<ps then 61 else 0)=Z:=⟨_,rfl⟩
  rw [hZQ];have HZQ:=Lib.hid hZQ;clear hZQ;have HZO:=Lib.hid (hfo w.drew hA0.drew);obtain ⟨m,hmm⟩:∃m,l.length-1=m:=⟨_,rfl⟩;have HMM:Hid (l.length=m+1):=Lib.hid (by omega);rw [hmm] at HSH0 HTK0 HSHUT HCSIN HTD HLN;obtain ⟨z0,z1,z2,z3,z4⟩:=hfo w hA0;clear hzok hzw hin hmm;go_enter Tryz.func222,Tryz.ntmps222;go_upto_region 3 with (fail)
  go_cut [5] (fun s wx=>s= .int .i64 (old:Int)∧Below w.heap.size w wx)
  case first=>
   go_region_held3 (fun w'=>w'.cell? ⟨p,0,none⟩=some (.int .i64 kind)∧w'.cell? ⟨p,2,none⟩=some (.slice (some ⟨ug,0,none⟩) l.length uc)∧w'.cell? ⟨p,3,none⟩=some (.slice PV pre.length pvc)∧w'.cell? ⟨ug,k*5,none⟩=some (.slice ZK zkey.length zk)∧w'.cell? ⟨ug,k*5+1,none⟩=some (.int .i64 zck)∧w'.cell? ⟨ug,k*5+2,none⟩=some (.slice ZV zval.length zv)∧w'.cell? ⟨ug,k*5+3,none⟩=some (.int .i64 zpg)∧w'.cell? ⟨ug,k*5+4,none⟩=some (.int .i64 zct))
    (first|exact ⟨b0,b2,b3,z0,z1,z2,z3,z4⟩|(have hA2:=hA0.drew.below hw2;have hx:=eP hA2;have hy:=hfo w2 hA2;exact ⟨hx.1,hx.2.2.1,hx.2.2.2.1,hy.1,hy.2.1,hy.2.2.1,hy.2.2.2.1,hy.2.2.2.2⟩))
    (first
     |(go_at_call 168;refine hl5.mono ?_;rintro e w2 ⟨rfl,hw2⟩)
     |fail)
   go_wp2_with fail;go_meet;exact ⟨rfl,(Below.refl _ _).drew.trans hw2⟩
  case rest=>
   obtain ⟨rfl,hw2⟩:=hcut;have hA2:=hA0.below hw2;clear hA0 hw2 hl5 hfo z0 z1 z2 z3 z4 b0 b1 b2 b3 b4 b5 HZO;obtain ⟨b0,b1,b2,b3,b4,b5⟩:=eP hA2;have hCl:=zDF hA2 hr (by omega)
   go_upto_region 5 with (first
    |(go_at_call 229;refine hCl.mono ?_;rintro e w3 ⟨N3,n3,rfl,hA3⟩)
    |(go_at_call 210;refine (zIK hA3 hr (by omega) k hkl).mono ?_;rw [show l.length-1=m by have:=HMM.out;omega];rintro e w7 ⟨B7,c7,rfl,hA7⟩;rw [HLR.out] at hA7)
    |fail)
   clear hCl hA2 hA3 b0 b1 b2 b3 b4 b5;have HSH:=Lib.hid (fun W h=>HSH0.out W B7 c7 h);have HTK:=Lib.hid (fun W h=>HTK0.out W B7 c7 h);have HS:=eP (M:= [_]) hA7.drew;obtain ⟨sh,hsh9⟩:∃sh,zD kind (pcs lr)=sh:=⟨_,rfl⟩;rw [hsh9] at HSH HTK;clear hsh9 HSH0 HTK0
   go_cut [72] (fun c wx=>c= .bool (decide (kind=3∧k=0∧P<ps))∧Sep w0 wx (zP 43 5 (.slice B7 m c7) m (zF lr)::qQ p P used waste kind (some ⟨ug,0,none⟩) PV uc pvc l pre L))
   case first=>
    by_cases h0:k=0
    ·have e2:((k:Int)==0)=true:=by simp [h0]
     by_cases h3:kind=3
     ·have e1:(kind==3)=true:=by simp [h3]
      have e3:decide (kind=3∧k=0∧P<ps)=decide (P<ps):=decide_eq_decide.2 ⟨fun h=>h.2.2,fun h=>⟨h3,h0,h⟩⟩;have E3:=Lib.hid e3;clear h3 h0 e3;refine jJ 27 (fun w'=>zGM w' p P used waste kind (some ⟨ug,0,none⟩) PV uc pvc l pre) (by kernel_rfl) (by kernel_rfl) (by kernel_rfl) (by kernel_rfl) (by kernel_rfl) ?_;refine zH 0 (v:= ?_) rfl (by kernel_rfl) (by kernel_rfl) (by kernel_rfl) (fun _ _ _ h=>h) (by rfl) HS ?_ ?_
      rotate_left
      ·intro w hSw;obtain ⟨b0,b1,b2,b3,b4,b5⟩:=hSw;go_simp;try with_reducible rfl
      try simp only [Act.put,List.setIfInBounds_toArray,List.set_cons_zero,List.set_cons_succ]
      refine zH 1 (v:= ?_) rfl (by kernel_rfl) (by kernel_rfl) (by kernel_rfl) (fun _ _ _ h=>h) (by rfl) HS ?_ ?_
      rotate_left
      ·intro w hSw;obtain ⟨b0,b1,b2,b3,b4,b5⟩:=hSw;go_simp;try with_reducible rfl
      try simp only [Act.put,List.setIfInBounds_toArray,List.set_cons_zero,List.set_cons_succ]
      refine zH 2 (v:= ?_) rfl (by kernel_rfl) (by kernel_rfl) (by kernel_rfl) (fun _ _ _ h=>h) (by rfl) HS ?_ ?_
      rotate_left
      ·intro w hSw;obtain ⟨b0,b1,b2,b3,b4,b5⟩:=hSw;go_simp;try with_reducible rfl
      try simp only [Act.put,List.setIfInBounds_toArray,List.set_cons_zero,List.set_cons_succ]
      refine zH 3 (v:= ?_) rfl (by kernel_rfl) (by kernel_rfl) (by kernel_rfl) (fun _ _ _ h=>h) (by rfl) HS ?_ ?_
      rotate_left
      ·intro w hSw;obtain ⟨b0,b1,b2,b3,b4,b5⟩:=hSw;go_simp;try with_reducible rfl
      try simp only [Act.put,List.setIfInBounds_toArray,List.set_cons_zero,List.set_cons_succ]
      refine zH 4 (v:= ?_) rfl (by kernel_rfl) (by kernel_rfl) (by kernel_rfl) (fun _ _ _ h=>h) (by rfl) HS ?_ ?_
      rotate_left
      ·intro w hSw;obtain ⟨b0,b1,b2,b3,b4,b5⟩:=hSw;go_simp;try with_reducible rfl
      try simp only [Act.put,List.setIfInBounds_toArray,List.set_cons_zero,List.set_cons_succ]
      refine zH 5 (v:= ?_) rfl (by kernel_rfl) (by kernel_rfl) (by kernel_rfl) (fun _ _ _ h=>h) (by rfl) HS ?_ ?_
      rotate_left
      ·intro w hSw;obtain ⟨b0,b1,b2,b3,b4,b5⟩:=hSw;go_simp;try with_reducible rfl
      try simp only [Act.put,List.setIfInBounds_toArray,List.set_cons_zero,List.set_cons_succ]
      refine zH 6 (v:= ?_) rfl (by kernel_rfl) (by kernel_rfl) (by kernel_rfl) (fun _ _ _ h=>h) (by rfl) HS ?_ ?_
      rotate_left
      ·intro w hSw;obtain ⟨b0,b1,b2,b3,b4,b5⟩:=hSw;go_simp;try with_reducible rfl
      try simp only [Act.put,List.setIfInBounds_toArray,List.set_cons_zero,List.set_cons_succ]
      refine zH 7 (v:= ?_) rfl (by kernel_rfl) (by kernel_rfl) (by kernel_rfl) (fun _ _ _ h=>h) (by rfl) HS ?_ ?_
      rotate_left
      ·intro w hSw;obtain ⟨b0,b1,b2,b3,b4,b5⟩:=hSw;go_simp;try with_reducible rfl
      try simp only [Act.put,List.setIfInBounds_toArray,List.set_cons_zero,List.set_cons_succ]
      refine zH 8 (v:= ?_) rfl (by kernel_rfl) (by kernel_rfl) (by kernel_rfl) (fun _ _ _ h=>h) (by rfl) HS ?_ ?_
      rotate_left
      ·intro w hSw;obtain ⟨b0,b1,b2,b3,b4,b5⟩:=hSw;go_simp;try with_reducible rfl
      try simp only [Act.put,List.setIfInBounds_toArray,List.set_cons_zero,List.set_cons_succ]
      refine zH 9 (v:= ?_) rfl (by kernel_rfl) (by kernel_rfl) (by kernel_rfl) (fun _ _ _ h=>h) (by rfl) HS ?_ ?_
      rotate_left
      ·intro w hSw;obtain ⟨b0,b1,b2,b3,b4,b5⟩:=hSw;go_simp;try with_reducible rfl
      try simp only [Act.put,List.setIfInBounds_toArray,List.set_cons_zero,List.set_cons_succ]
      refine zH 10 (v:= ?_) rfl (by kernel_rfl) (by kernel_rfl) (by kernel_rfl) (fun _ _ _ h=>h) (by rfl) HS ?_ ?_
      rotate_left
      ·intro w hSw;obtain ⟨b0,b1,b2,b3,b4,b5⟩:=hSw;go_simp;try with_reducible rfl
      try simp only [Act.put,List.setIfInBounds_toArray,List.set_cons_zero,List.set_cons_succ]
      refine zH 11 (v:= ?_) rfl (by kernel_rfl) (by kernel_rfl) (by kernel_rfl) (fun _ _ _ h=>h) (by rfl) HS ?_ ?_
      rotate_left
      ·intro w hSw;obtain ⟨b0,b1,b2,b3,b4,b5⟩:=hSw;go_simp;try with_reducible rfl
      try simp only [Act.put,List.setIfInBounds_toArray,List.set_cons_zero,List.set_cons_succ]
      refine zH 12 (v:= ?_) rfl (by kernel_rfl) (by kernel_rfl) (by kernel_rfl) (fun _ _ _ h=>h) (by rfl) HS ?_ ?_
      rotate_left
      ·intro w hSw;obtain ⟨b0,b1,b2,b3,b4,b5⟩:=hSw;go_simp;try with_reducible rfl
      try simp only [Act.put,List.setIfInBounds_toArray,List.set_cons_zero,List.set_cons_succ]
      refine zH 13 (v:= ?_) rfl (by kernel_rfl) (by kernel_rfl) (by kernel_rfl) (fun _ _ _ h=>h) (by rfl) HS ?_ ?_
      rotate_left
      ·intro w hSw;obtain ⟨b0,b1,b2,b3,b4,b5⟩:=hSw;go_simp;try with_reducible rfl
      try simp only [Act.put,List.setIfInBounds_toArray,List.set_cons_zero,List.set_cons_succ]
      refine zH 14 (v:= ?_) rfl (by kernel_rfl) (by kernel_rfl) (by kernel_rfl) (fun _ _ _ h=>h) (by rfl) HS ?_ ?_
      rotate_left
      ·intro w hSw;obtain ⟨b0,b1,b2,b3,b4,b5⟩:=hSw;go_simp;try with_reducible rfl
      try simp only [Act.put,List.setIfInBounds_toArray,List.set_cons_zero,List.set_cons_succ]
      refine zH 15 (v:= ?_) rfl (by kernel_rfl) (by kernel_rfl) (by kernel_rfl) (fun _ _ _ h=>h) (by rfl) HS ?_ ?_
      rotate_left
      ·intro w hSw;obtain ⟨b0,b1,b2,b3,b4,b5⟩:=hSw;go_simp;try with_reducible rfl
      try simp only [Act.put,List.setIfInBounds_toArray,List.set_cons_zero,List.set_cons_succ]
      refine zH 16 (v:= ?_) rfl (by kernel_rfl) (by kernel_rfl) (by kernel_rfl) (fun _ _ _ h=>h) (by rfl) HS ?_ ?_
      rotate_left
      ·intro w hSw;obtain ⟨b0,b1,b2,b3,b4,b5⟩:=hSw;go_simp;try with_reducible rfl
      try simp only [Act.put,List.setIfInBounds_toArray,List.set_cons_zero,List.set_cons_succ]
      refine zH 17 (v:= ?_) rfl (by kernel_rfl) (by kernel_rfl) (by kernel_rfl) (fun _ _ _ h=>h) (by rfl) HS ?_ ?_
      rotate_left
      ·intro w hSw;obtain ⟨b0,b1,b2,b3,b4,b5⟩:=hSw;go_simp;try with_reducible rfl
      try simp only [Act.put,List.setIfInBounds_toArray,List.set_cons_zero,List.set_cons_succ]
      refine zH 18 (v:= ?_) rfl (by kernel_rfl) (by kernel_rfl) (by kernel_rfl) (fun _ _ _ h=>h) (by rfl) HS ?_ ?_
      rotate_left
      ·intro w hSw;obtain ⟨b0,b1,b2,b3,b4,b5⟩:=hSw;go_simp;try with_reducible rfl
      try simp only [Act.put,List.setIfInBounds_toArray,List.set_cons_zero,List.set_cons_succ]
      refine zH 19 (v:= ?_) rfl (by kernel_rfl) (by kernel_rfl) (by kernel_rfl) (fun _ _ _ h=>h) (by rfl) HS ?_ ?_
      rotate_left
      ·intro w hSw;obtain ⟨b0,b1,b2,b3,b4,b5⟩:=hSw;go_simp;try with_reducible rfl
      try simp only [Act.put,List.setIfInBounds_toArray,List.set_cons_zero,List.set_cons_succ]
      refine zH 22 (v:= ?_) rfl (by kernel_rfl) (by kernel_rfl) (by kernel_rfl) (fun _ _ _ h=>h) (by rfl) HS ?_ ?_
      rotate_left
      ·intro w hSw;obtain ⟨b0,b1,b2,b3,b4,b5⟩:=hSw;go_simp;try with_reducible rfl
      try simp only [Act.put,List.setIfInBounds_toArray,List.set_cons_zero,List.set_cons_succ]
      refine zH 23 (v:= ?_) rfl (by kernel_rfl) (by kernel_rfl) (by kernel_rfl) (fun _ _ _ h=>h) (by rfl) HS ?_ ?_
      rotate_left
      ·intro w hSw;obtain ⟨b0,b1,b2,b3,b4,b5⟩:=hSw;go_simp;try with_reducible rfl
      try simp only [Act.put,List.setIfInBounds_toArray,List.set_cons_zero,List.set_cons_succ]
      refine zH 24 (v:= ?_) rfl (by kernel_rfl) (by kernel_rfl) (by kernel_rfl) (fun _ _ _ h=>h) (by rfl) HS ?_ ?_
      rotate_left
      ·intro w hSw;obtain ⟨b0,b1,b2,b3,b4,b5⟩:=hSw;go_simp;try with_reducible rfl
      try simp only [Act.put,List.setIfInBounds_toArray,List.set_cons_zero,List.set_cons_succ]
      refine zH 25 (v:= ?_) rfl (by kernel_rfl) (by kernel_rfl) (by kernel_rfl) (fun _ _ _ h=>h) (by rfl) HS ?_ ?_
      rotate_left
      ·intro w hSw;obtain ⟨b0,b1,b2,b3,b4,b5⟩:=hSw;go_simp;try with_reducible rfl
      try simp only [Act.put,List.setIfInBounds_toArray,List.set_cons_zero,List.set_cons_succ]
      refine jU 20 rfl (by kernel_rfl) (by kernel_rfl) (fun K hK=> ?_)
      go_simp
      go_at_call 139
      refine (HSH.out _ hA7.drew).mono ?_;rintro e w8 ⟨rfl,hw8⟩;have hA8:=hA7.drew.below hw8;refine hK.out _ _ ?_ (fun HS=> ?_)
      ·exact eP (M:= [_]) hA8
      clear hK K;refine jU 21 rfl (by kernel_rfl) (by kernel_rfl) (fun K hK=> ?_)
      go_simp
      go_at_call 138
      refine (HTK.out _ hA8).mono ?_;rintro e w9 ⟨rfl,hw9⟩;have hA9:=hA8.below hw9;refine hK.out _ _ ?_ (fun HS=> ?_)
      ·exact eP (M:= [_]) hA9
      clear hK K;refine zH 26 (v:= ?_) rfl (by kernel_rfl) (by kernel_rfl) (by kernel_rfl) (fun _ _ _ h=>h) (by rfl) HS ?_ ?_
      rotate_left
      ·intro w hSw;obtain ⟨b0,b1,b2,b3,b4,b5⟩:=hSw;go_simp;try with_reducible rfl
      try simp only [Act.put,List.setIfInBounds_toArray,List.set_cons_zero,List.set_cons_succ]
      refine fB (by kernel_rfl) ?_;simp only [List.drop_succ_cons,List.drop_zero];go_wp2_with fail;go_meet;exact ⟨by rw [E3.out],hA9⟩
     ·have e1:(kind==3)=false:=beq_eq_false_iff_ne.2 h3;have e3:decide (kind=3∧k=0∧P<ps)=false:=decide_eq_false (fun h=>h3 h.1);have E3:=Lib.hid e3;clear h3 h0 e3;refine jJ 27 (fun w'=>zGM w' p P used waste kind (some ⟨ug,0,none⟩) PV uc pvc l pre) (by kernel_rfl) (by kernel_rfl) (by kernel_rfl) (by kernel_rfl) (by kernel_rfl) ?_;refine zH 0 (v:= ?_) rfl (by kernel_rfl) (by kernel_rfl) (by kernel_rfl) (fun _ _ _ h=>h) (by rfl) HS ?_ ?_
      rotate_left
      ·intro w hSw;obtain ⟨b0,b1,b2,b3,b4,b5⟩:=hSw;go_simp;try with_reducible rfl
      try simp only [Act.put,List.setIfInBounds_toArray,List.set_cons_zero,List.set_cons_succ]
      refine zH 1 (v:= ?_) rfl (by kernel_rfl) (by kernel_rfl) (by kernel_rfl) (fun _ _ _ h=>h) (by rfl) HS ?_ ?_
      rotate_left
      ·intro w hSw;obtain ⟨b0,b1,b2,b3,b4,b5⟩:=hSw;go_simp;try with_reducible rfl
      try simp only [Act.put,List.setIfInBounds_toArray,List.set_cons_zero,List.set_cons_succ]
      refine zH 2 (v:= ?_) rfl (by kernel_rfl) (by kernel_rfl) (by kernel_rfl) (fun _ _ _ h=>h) (by rfl) HS ?_ ?_
      rotate_left
      ·intro w hSw;obtain ⟨b0,b1,b2,b3,b4,b5⟩:=hSw;go_simp;try with_reducible rfl
      try simp only [Act.put,List.setIfInBounds_toArray,List.set_cons_zero,List.set_cons_succ]
      refine zH 3 (v:= ?_) rfl (by kernel_rfl) (by kernel_rfl) (by kernel_rfl) (fun _ _ _ h=>h) (by rfl) HS ?_ ?_
      rotate_left
      ·intro w hSw;obtain ⟨b0,b1,b2,b3,b4,b5⟩:=hSw;go_simp;try with_reducible rfl
      try simp only [Act.put,List.setIfInBounds_toArray,List.set_cons_zero,List.set_cons_succ]
      refine zH 4 (v:= ?_) rfl (by kernel_rfl) (by kernel_rfl) (by kernel_rfl) (fun _ _ _ h=>h) (by rfl) HS ?_ ?_
      rotate_left
      ·intro w hSw;obtain ⟨b0,b1,b2,b3,b4,b5⟩:=hSw;go_simp;try with_reducible rfl
      try simp only [Act.put,List.setIfInBounds_toArray,List.set_cons_zero,List.set_cons_succ]
      refine zH 5 (v:= ?_) rfl (by kernel_rfl) (by kernel_rfl) (by kernel_rfl) (fun _ _ _ h=>h) (by rfl) HS ?_ ?_
      rotate_left
      ·intro w hSw;obtain ⟨b0,b1,b2,b3,b4,b5⟩:=hSw;go_simp;try with_reducible rfl
      try simp only [Act.put,List.setIfInBounds_toArray,List.set_cons_zero,List.set_cons_succ]
      refine zH 6 (v:= ?_) rfl (by kernel_rfl) (by kernel_rfl) (by kernel_rfl) (fun _ _ _ h=>h) (by rfl) HS ?_ ?_
      rotate_left
      ·intro w hSw;obtain ⟨b0,b1,b2,b3,b4,b5⟩:=hSw;go_simp;try with_reducible rfl
      try simp only [Act.put,List.setIfInBounds_toArray,List.set_cons_zero,List.set_cons_succ]
      refine zH 7 (v:= ?_) rfl (by kernel_rfl) (by kernel_rfl) (by kernel_rfl) (fun _ _ _ h=>h) (by rfl) HS ?_ ?_
      rotate_left
      ·intro w hSw;obtain ⟨b0,b1,b2,b3,b4,b5⟩:=hSw;go_simp;try with_reducible rfl
      try simp only [Act.put,List.setIfInBounds_toArray,List.set_cons_zero,List.set_cons_succ]
      refine zH 8 (v:= ?_) rfl (by kernel_rfl) (by kernel_rfl) (by kernel_rfl) (fun _ _ _ h=>h) (by rfl) HS ?_ ?_
      rotate_left
      ·intro w hSw;obtain ⟨b0,b1,b2,b3,b4,b5⟩:=hSw;go_simp;try with_reducible rfl
      try simp only [Act.put,List.setIfInBounds_toArray,List.set_cons_zero,List.set_cons_succ]
      refine zH 9 (v:= ?_) rfl (by kernel_rfl) (by kernel_rfl) (by kernel_rfl) (fun _ _ _ h=>h) (by rfl) HS ?_ ?_
      rotate_left
      ·intro w hSw;obtain ⟨b0,b1,b2,b3,b4,b5⟩:=hSw;go_simp;try with_reducible rfl
      try simp only [Act.put,List.setIfInBounds_toArray,List.set_cons_zero,List.set_cons_succ]
      refine zU 10 rfl (by kernel_rfl) (by kernel_rfl) (by kernel_rfl) (fun _ _ _ h=>h) (by rfl) HS ?_
      try simp only [Act.put,List.setIfInBounds_toArray,List.set_cons_zero,List.set_cons_succ]
      refine zU 11 rfl (by kernel_rfl) (by kernel_rfl) (by kernel_rfl) (fun _ _ _ h=>h) (by rfl) HS ?_
      try simp only [Act.put,List.setIfInBounds_toArray,List.set_cons_zero,List.set_cons_succ]
      refine zU 12 rfl (by kernel_rfl) (by kernel_rfl) (by kernel_rfl) (fun _ _ _ h=>h) (by rfl) HS ?_
      try simp only [Act.put,List.setIfInBounds_toArray,List.set_cons_zero,List.set_cons_succ]
      refine zU 13 rfl (by kernel_rfl) (by kernel_rfl) (by kernel_rfl) (fun _ _ _ h=>h) (by rfl) HS ?_
      try simp only [Act.put,List.setIfInBounds_toArray,List.set_cons_zero,List.set_cons_succ]
      refine zU 14 rfl (by kernel_rfl) (by kernel_rfl) (by kernel_rfl) (fun _ _ _ h=>h) (by rfl) HS ?_
      try simp only [Act.put,List.setIfInBounds_toArray,List.set_cons_zero,List.set_cons_succ]
      refine zU 15 rfl (by kernel_rfl) (by kernel_rfl) (by kernel_rfl) (fun _ _ _ h=>h) (by rfl) HS ?_
      try simp only [Act.put,List.setIfInBounds_toArray,List.set_cons_zero,List.set_cons_succ]
      refine zU 16 rfl (by kernel_rfl) (by kernel_rfl) (by kernel_rfl) (fun _ _ _ h=>h) (by rfl) HS ?_
      try simp only [Act.put,List.setIfInBounds_toArray,List.set_cons_zero,List.set_cons_succ]
      refine zU 17 rfl (by kernel_rfl) (by kernel_rfl) (by kernel_rfl) (fun _ _ _ h=>h) (by rfl) HS ?_
      try simp only [Act.put,List.setIfInBounds_toArray,List.set_cons_zero,List.set_cons_succ]
      refine zU 18 rfl (by kernel_rfl) (by kernel_rfl) (by kernel_rfl) (fun _ _ _ h=>h) (by rfl) HS ?_
      try simp only [Act.put,List.setIfInBounds_toArray,List.set_cons_zero,List.set_cons_succ]
      refine zU 19 rfl (by kernel_rfl) (by kernel_rfl) (by kernel_rfl) (fun _ _ _ h=>h) (by rfl) HS ?_
      try simp only [Act.put,List.setIfInBounds_toArray,List.set_cons_zero,List.set_cons_succ]
      refine zU 20 rfl (by kernel_rfl) (by kernel_rfl) (by kernel_rfl) (fun _ _ _ h=>h) (by rfl) HS ?_
      try simp only [Act.put,List.setIfInBounds_toArray,List.set_cons_zero,List.set_cons_succ]
      refine zU 21 rfl (by kernel_rfl) (by kernel_rfl) (by kernel_rfl) (fun _ _ _ h=>h) (by rfl) HS ?_
      try simp only [Act.put,List.setIfInBounds_toArray,List.set_cons_zero,List.set_cons_succ]
      refine zU 22 rfl (by kernel_rfl) (by kernel_rfl) (by kernel_rfl) (fun _ _ _ h=>h) (by rfl) HS ?_
      try simp only [Act.put,List.setIfInBounds_toArray,List.set_cons_zero,List.set_cons_succ]
      refine zU 23 rfl (by kernel_rfl) (by kernel_rfl) (by kernel_rfl) (fun _ _ _ h=>h) (by rfl) HS ?_
      try simp only [Act.put,List.setIfInBounds_toArray,List.set_cons_zero,List.set_cons_succ]
      refine zU 24 rfl (by kernel_rfl) (by kernel_rfl) (by kernel_rfl) (fun _ _ _ h=>h) (by rfl) HS ?_
      try simp only [Act.put,List.setIfInBounds_toArray,List.set_cons_zero,List.set_cons_succ]
      refine zU 25 rfl (by kernel_rfl) (by kernel_rfl) (by kernel_rfl) (fun _ _ _ h=>h) (by rfl) HS ?_
      try simp only [Act.put,List.setIfInBounds_toArray,List.set_cons_zero,List.set_cons_succ]
      refine zU 26 rfl (by kernel_rfl) (by kernel_rfl) (by kernel_rfl) (fun _ _ _ h=>h) (by rfl) HS ?_
      try simp only [Act.put,List.setIfInBounds_toArray,List.set_cons_zero,List.set_cons_succ]
      refine fB (by kernel_rfl) ?_;simp only [List.drop_succ_cons,List.drop_zero];go_wp2_with fail;go_meet;exact ⟨by rw [E3.out],hA7.drew⟩
    ·have e2:((k:Int)==0)=false:=beq_eq_false_iff_ne.2 (by omega);have e3:decide (kind=3∧k=0∧P<ps)=false:=decide_eq_false (fun h=>h0 h.2.1);have E3:=Lib.hid e3;clear h0 e3;refine jJ 27 (fun w'=>zGM w' p P used waste kind (some ⟨ug,0,none⟩) PV uc pvc l pre) (by kernel_rfl) (by kernel_rfl) (by kernel_rfl) (by kernel_rfl) (by kernel_rfl) ?_;refine zH 0 (v:= ?_) rfl (by kernel_rfl) (by kernel_rfl) (by kernel_rfl) (fun _ _ _ h=>h) (by rfl) HS ?_ ?_
     rotate_left
     ·intro w hSw;obtain ⟨b0,b1,b2,b3,b4,b5⟩:=hSw;go_simp;try with_reducible rfl
     try simp only [Act.put,List.setIfInBounds_toArray,List.set_cons_zero,List.set_cons_succ]
     refine zH 1 (v:= ?_) rfl (by kernel_rfl) (by kernel_rfl) (by kernel_rfl) (fun _ _ _ h=>h) (by rfl) HS ?_ ?_
     rotate_left
     ·intro w hSw;obtain ⟨b0,b1,b2,b3,b4,b5⟩:=hSw;go_simp;try with_reducible rfl
     try simp only [Act.put,List.setIfInBounds_toArray,List.set_cons_zero,List.set_cons_succ]
     refine zH 2 (v:= ?_) rfl (by kernel_rfl) (by kernel_rfl) (by kernel_rfl) (fun _ _ _ h=>h) (by rfl) HS ?_ ?_
     rotate_left
     ·intro w hSw;obtain ⟨b0,b1,b2,b3,b4,b5⟩:=hSw;go_simp;try with_reducible rfl
     try simp only [Act.put,List.setIfInBounds_toArray,List.set_cons_zero,List.set_cons_succ]
     refine zU 3 rfl (by kernel_rfl) (by kernel_rfl) (by kernel_rfl) (fun _ _ _ h=>h) (by rfl) HS ?_
     try simp only [Act.put,List.setIfInBounds_toArray,List.set_cons_zero,List.set_cons_succ]
     refine zU 4 rfl (by kernel_rfl) (by kernel_rfl) (by kernel_rfl) (fun _ _ _ h=>h) (by rfl) HS ?_
     try simp only [Act.put,List.setIfInBounds_toArray,List.set_cons_zero,List.set_cons_succ]
     refine zU 5 rfl (by kernel_rfl) (by kernel_rfl) (by kernel_rfl) (fun _ _ _ h=>h) (by rfl) HS ?_
     try simp only [Act.put,List.setIfInBounds_toArray,List.set_cons_zero,List.set_cons_succ]
     refine zU 6 rfl (by kernel_rfl) (by kernel_rfl) (by kernel_rfl) (fun _ _ _ h=>h) (by rfl) HS ?_
     try simp only [Act.put,List.setIfInBounds_toArray,List.set_cons_zero,List.set_cons_succ]
     refine zU 7 rfl (by kernel_rfl) (by kernel_rfl) (by kernel_rfl) (fun _ _ _ h=>h) (by rfl) HS ?_
     try simp only [Act.put,List.setIfInBounds_toArray,List.set_cons_zero,List.set_cons_succ]
     refine zH 8 (v:= ?_) rfl (by kernel_rfl) (by kernel_rfl) (by kernel_rfl) (fun _ _ _ h=>h) (by rfl) HS ?_ ?_
     rotate_left
     ·intro w hSw;obtain ⟨b0,b1,b2,b3,b4,b5⟩:=hSw;go_simp;try with_reducible rfl
     try simp only [Act.put,List.setIfInBounds_toArray,List.set_cons_zero,List.set_cons_succ]
     refine zH 9 (v:= ?_) rfl (by kernel_rfl) (by kernel_rfl) (by kernel_rfl) (fun _ _ _ h=>h) (by rfl) HS ?_ ?_
     rotate_left
     ·intro w hSw;obtain ⟨b0,b1,b2,b3,b4,b5⟩:=hSw;go_simp;try with_reducible rfl
     try simp only [Act.put,List.setIfInBounds_toArray,List.set_cons_zero,List.set_cons_succ]
     refine zU 10 rfl (by kernel_rfl) (by kernel_rfl) (by kernel_rfl) (fun _ _ _ h=>h) (by rfl) HS ?_
     try simp only [Act.put,List.setIfInBounds_toArray,List.set_cons_zero,List.set_cons_succ]
     refine zU 11 rfl (by kernel_rfl) (by kernel_rfl) (by kernel_rfl) (fun _ _ _ h=>h) (by rfl) HS ?_
     try simp only [Act.put,List.setIfInBounds_toArray,List.set_cons_zero,List.set_cons_succ]
     refine zU 12 rfl (by kernel_rfl) (by kernel_rfl) (by kernel_rfl) (fun _ _ _ h=>h) (by rfl) HS ?_
     try simp only [Act.put,List.setIfInBounds_toArray,List.set_cons_zero,List.set_cons_succ]
     refine zU 13 rfl (by kernel_rfl) (by kernel_rfl) (by kernel_rfl) (fun _ _ _ h=>h) (by rfl) HS ?_
     try simp only [Act.put,List.setIfInBounds_toArray,List.set_cons_zero,List.set_cons_succ]
     refine zU 14 rfl (by kernel_rfl) (by kernel_rfl) (by kernel_rfl) (fun _ _ _ h=>h) (by rfl) HS ?_
     try simp only [Act.put,List.setIfInBounds_toArray,List.set_cons_zero,List.set_cons_succ]
     refine zU 15 rfl (by kernel_rfl) (by kernel_rfl) (by kernel_rfl) (fun _ _ _ h=>h) (by rfl) HS ?_
     try simp only [Act.put,List.setIfInBounds_toArray,List.set_cons_zero,List.set_cons_succ]
     refine zU 16 rfl (by kernel_rfl) (by kernel_rfl) (by kernel_rfl) (fun _ _ _ h=>h) (by rfl) HS ?_
     try simp only [Act.put,List.setIfInBounds_toArray,List.set_cons_zero,List.set_cons_succ]
     refine zU 17 rfl (by kernel_rfl) (by kernel_rfl) (by kernel_rfl) (fun _ _ _ h=>h) (by rfl) HS ?_
     try simp only [Act.put,List.setIfInBounds_toArray,List.set_cons_zero,List.set_cons_succ]
     refine zU 18 rfl (by kernel_rfl) (by kernel_rfl) (by kernel_rfl) (fun _ _ _ h=>h) (by rfl) HS ?_
     try simp only [Act.put,List.setIfInBounds_toArray,List.set_cons_zero,List.set_cons_succ]
     refine zU 19 rfl (by kernel_rfl) (by kernel_rfl) (by kernel_rfl) (fun _ _ _ h=>h) (by rfl) HS ?_
     try simp only [Act.put,List.setIfInBounds_toArray,List.set_cons_zero,List.set_cons_succ]
     refine zU 20 rfl (by kernel_rfl) (by kernel_rfl) (by kernel_rfl) (fun _ _ _ h=>h) (by rfl) HS ?_
     try simp only [Act.put,List.setIfInBounds_toArray,List.set_cons_zero,List.set_cons_succ]
     refine zU 21 rfl (by kernel_rfl) (by kernel_rfl) (by kernel_rfl) (fun _ _ _ h=>h) (by rfl) HS ?_
     try simp only [Act.put,List.setIfInBounds_toArray,List.set_cons_zero,List.set_cons_succ]
     refine zU 22 rfl (by kernel_rfl) (by kernel_rfl) (by kernel_rfl) (fun _ _ _ h=>h) (by rfl) HS ?_
     try simp only [Act.put,List.setIfInBounds_toArray,List.set_cons_zero,List.set_cons_succ]
     refine zU 23 rfl (by kernel_rfl) (by kernel_rfl) (by kernel_rfl) (fun _ _ _ h=>h) (by rfl) HS ?_
     try simp only [Act.put,List.setIfInBounds_toArray,List.set_cons_zero,List.set_cons_succ]
     refine zU 24 rfl (by kernel_rfl) (by kernel_rfl) (by kernel_rfl) (fun _ _ _ h=>h) (by rfl) HS ?_
     try simp only [Act.put,List.setIfInBounds_toArray,List.set_cons_zero,List.set_cons_succ]
     refine zU 25 rfl (by kernel_rfl) (by kernel_rfl) (by kernel_rfl) (fun _ _ _ h=>h) (by rfl) HS ?_
     try simp only [Act.put,List.setIfInBounds_toArray,List.set_cons_zero,List.set_cons_succ]
     refine zU 26 rfl (by kernel_rfl) (by kernel_rfl) (by kernel_rfl) (fun _ _ _ h=>h) (by rfl) HS ?_
     try simp only [Act.put,List.setIfInBounds_toArray,List.set_cons_zero,List.set_cons_succ]
     refine fB (by kernel_rfl) ?_;simp only [List.drop_succ_cons,List.drop_zero];go_wp2_with fail;go_meet;exact ⟨by rw [E3.out],hA7.drew⟩
   case rest=>
    obtain ⟨rfl,hA8⟩:=hcut;clear hA7 HS HSH HTK
    by_cases hZ:kind=3∧k=0∧P<ps
    ·rw [show decide (kind=3∧k=0∧P<ps)=true from decide_eq_true hZ];have HZ:=Lib.hid hZ;clear hZ;go_wp2_with fail;go_ret;exact ⟨by rw [←HZQ.out,if_pos HZ.out];rfl,by rw [HRN.out HZ.out];exact HF.out _ hA8.tail⟩
    ·rw [show decide (kind=3∧k=0∧P<ps)=false from decide_eq_false hZ];have HZ:=Lib.hid hZ;clear hZ;obtain ⟨b0,b1,b2,b3,b4,b5⟩:=eP (M:= [_]) hA8;have hbp:OBlk wc p 150 [.int .i64 kind,.int .i64 (P:Int),.slice (some ⟨ug,0,none⟩) l.length uc,.slice PV pre.length pvc,.int .i64 (used:Int),.int .i64 (waste:Int)]:=hA8.tail.head;have f2:=hbp.frozen (j:=2) (by simp);have f4:=hbp.frozen (j:=4) (by simp);have f5:=hbp.frozen (j:=5) (by simp)
     have e1:IntKind.i64.wrap ((waste:Int)+(old:Int))=(waste:Int)+(old:Int):=by rw [IntKind.wrap_i64];omega
     have e2:IntKind.i64.wrap ((2:Int)+(old:Int))=(2:Int)+(old:Int):=by rw [IntKind.wrap_i64];omega
     have e3:IntKind.i64.wrap ((used:Int)-((2:Int)+(old:Int)))=(used:Int)-((2:Int)+(old:Int)):=by rw [IntKind.wrap_i64];omega
     go_upto_region 10 with (fail);have hS9:=((hA8.sw1.setCell 2 (.slice B7 m c7)).setCell 5 (.int .i64 ((waste:Int)+(old:Int)))).setCell 4 (.int .i64 ((used:Int)-((2:Int)+(old:Int))))
     have hS9:Sep w0 (((wc.setCell ⟨p,2,none⟩ (.slice B7 m c7)).setCell ⟨p,5,none⟩ (.int .i64 ((waste:Int)+(old:Int)))).setCell ⟨p,4,none⟩ (.int .i64 ((used:Int)-((2:Int)+(old:Int))))) (pkB p kind P (.slice B7 m c7) (.slice PV pre.length pvc) (used-(2+old)) (waste+old)::zP 43 5 (.slice B7 m c7) m (zF lr)::zP 43 5 (.slice (some ⟨ug,0,none⟩) l.length uc) l.length (zF l)::zB (.slice PV pre.length pvc) pre::(zG l++L)):=by
      unfold pkB;rw [Int.natCast_add,show (((used-(2+old):Nat)):Int)=(used:Int)-((2:Int)+(old:Int)) by omega];exact hS9
     clear hA8 b0 b1 b2 b3 b4 b5 hbp f2 f4 f5;generalize ((wc.setCell ⟨p,2,none⟩ (.slice B7 m c7)).setCell ⟨p,5,none⟩ (.int .i64 ((waste:Int)+(old:Int)))).setCell ⟨p,4,none⟩ (.int .i64 ((used:Int)-((2:Int)+(old:Int))))=w9 at*;have hbp:OBlk w9 p 150 [.int .i64 kind,.int .i64 (P:Int),.slice B7 m c7,.slice PV pre.length pvc,.int .i64 (((used-(2+old):Nat)):Int),.int .i64 ((waste+old:Nat):Int)]:=hS9.head;obtain ⟨b0,b1,b2,b3,b4,b5⟩:=yZ hbp;clear b4 b5
     go_cut [110] (fun c wx=>c= .bool (decide ((kind=3∧k=0)∨m=0))∧wx=w9)
     case first=>
      by_cases hm0:m=0
      ·have e7:((m:Int)==0)=true:=by simp [hm0]
       have e9:decide ((kind=3∧k=0)∨m=0)=true:=decide_eq_true (.inr hm0);have E9:=Lib.hid e9
       by_cases h3:kind=3
       ·have e5:(kind==3)=true:=by simp [h3]
        by_cases h0:k=0
        ·have e6:((k:Int)==0)=true:=by simp [h0]
         clear h0 h3 hm0 e9;go_wp2_with fail;go_meet;exact ⟨by rw [E9.out],rfl⟩
        ·have e6:((k:Int)==0)=false:=beq_eq_false_iff_ne.2 (by omega);clear h0 h3 hm0 e9;go_wp2_with fail;go_meet;exact ⟨by rw [E9.out],rfl⟩
       ·have e5:(kind==3)=false:=beq_eq_false_iff_ne.2 h3;clear h3 hm0 e9;go_wp2_with fail;go_meet;exact ⟨by rw [E9.out],rfl⟩
      ·have e7:((m:Int)==0)=false:=beq_eq_false_iff_ne.2 (by omega)
       by_cases h3:kind=3
       ·have e5:(kind==3)=true:=by simp [h3]
        by_cases h0:k=0
        ·have e6:((k:Int)==0)=true:=by simp [h0]
         have e9:decide ((kind=3∧k=0)∨m=0)=true:=decide_eq_true (.inl ⟨h3,h0⟩);have E9:=Lib.hid e9;clear h0 h3 hm0 e9;go_wp2_with fail;go_meet;exact ⟨by rw [E9.out],rfl⟩
        ·have e6:((k:Int)==0)=false:=beq_eq_false_iff_ne.2 (by omega);have e9:decide ((kind=3∧k=0)∨m=0)=false:=decide_eq_false (fun h=>h.elim (fun h=>h0 h.2) hm0);have E9:=Lib.hid e9;clear h0 h3 hm0 e9;go_wp2_with fail;go_meet;exact ⟨by rw [E9.out],rfl⟩
       ·have e5:(kind==3)=false:=beq_eq_false_iff_ne.2 h3;have e9:decide ((kind=3∧k=0)∨m=0)=false:=decide_eq_false (fun h=>h.elim (fun h=>h3 h.1) hm0);have E9:=Lib.hid e9;clear h3 hm0 e9;go_wp2_with fail;go_meet;exact ⟨by rw [E9.out],rfl⟩
     case rest=>
      obtain ⟨rfl,rfl⟩:=hcut
      by_cases hT:(kind=3∧k=0)∨m=0
      ·rw [show decide ((kind=3∧k=0)∨m=0)=true from decide_eq_true hT];have HSS:=Lib.hid ((HRS.out HZ.out).trans (if_pos (hT.imp id (fun h=>HPLN.out.2 (by have:=HMM.out;omega)))));have hTt:=HTD.out _ B7 c7 _ _ _ hS9;clear hS9 hT hbp b0 b1 b2 b3
       go_wp2_with (first
        |(go_at_call 137;(with_reducible refine hTt.mono ?_);rintro e w10 ⟨⟨x,rfl⟩,pv',hS10⟩)
        |fail)
       go_ret;refine ⟨by rw [←HZQ.out,if_neg HZ.out];rfl,?_⟩;rw [HSS.out];refine ⟨.slice B7 m c7,pv',lr,rfl,by rw [←HLR.out];exact hr.rem k (k+1),?_⟩;rw [HUTT.out];exact HSHUT.out _ _ _ _ _ _ _ (hS10.sub ((((List.Sublist.refl (zG l++L)).cons _).cons _).cons_cons _|>.cons_cons _|>.cons_cons _))
      ·rw [show decide ((kind=3∧k=0)∨m=0)=false from decide_eq_false hT];have HSS:=Lib.hid ((HRS.out HZ.out).trans (if_neg (fun h=>hT (h.imp id (fun h=>by have h1:=HPLN.out.1 h;have h2:=HMM.out;omega)))));have HNF:=Lib.hid (fun h=>hT (.inl h));clear hT hbp b0 b1 b2 b3;go_wp2_with fail;go_ret;refine ⟨by rw [←HZQ.out,if_neg HZ.out];rfl,?_⟩;rw [HSS.out];refine ⟨.slice B7 m c7,.slice PV pre.length pvc,lr,rfl,by rw [←HLR.out];exact hr.rem k (k+1),?_⟩;rw [HUTN.out,HTR.out HNF.out];refine HSHUT.out _ _ _ _ _ _ _ ?_;exact (Sep.pick (L:= [_,_,_,_]) [0,3,1] (by decide) rfl hS9)
abbrev sI (p:Nat):Value:= .iface 106 (.pointer (some ⟨p,0,none⟩))
theorem zD7 (p:Value) (k:Nat) (w:World):(method (k+1) 106 p "Kind").run Tryz.prog w= .ok (202,p) w:=by kernel_rfl
theorem iB (p:Value) (k:Nat) (w:World):(method (k+1) 106 p "Len").run Tryz.prog w= .ok (203,p) w:=by kernel_rfl
theorem o7 (p:Value) (k:Nat) (w:World):(method (k+1) 106 p "Used").run Tryz.prog w= .ok (206,p) w:=by kernel_rfl
theorem tQ (p:Value) (k:Nat) (w:World):(method (k+1) 106 p "Bytes").run Tryz.prog w= .ok (198,p) w:=by kernel_rfl
theorem aU (p:Value) (k:Nat) (w:World):(method (k+1) 106 p "Cell").run Tryz.prog w= .ok (199,p) w:=by kernel_rfl
theorem o9 (p:Value) (k:Nat) (w:World):(method (k+1) 106 p "Find").run Tryz.prog w= .ok (200,p) w:=by kernel_rfl
theorem rK (p:Value) (k:Nat) (w:World):(method (k+1) 106 p "Insert").run Tryz.prog w= .ok (201,p) w:=by kernel_rfl
theorem zGE (p:Value) (k:Nat) (w:World):(method (k+1) 106 p "Set").run Tryz.prog w= .ok (205,p) w:=by kernel_rfl
theorem zAK (p:Value) (k:Nat) (w:World):(method (k+1) 106 p "Remove").run Tryz.prog w= .ok (204,p) w:=by kernel_rfl
theorem zG7 (a:Addr) (k:Nat) (w:World):(nilAhead (k+1) 106 (.pointer (some a)) "Insert").run Tryz.prog w= .ok (some false) w:=by kernel_rfl
abbrev tH (p:Nat):Value:= .iface 111 (.pointer (some ⟨p,0,none⟩))
theorem zD4 (p:Value) (k:Nat) (w:World):(method (k+1) 111 p "Kind").run Tryz.prog w= .ok (220,p) w:=by kernel_rfl
theorem lK (p:Value) (k:Nat) (w:World):(method (k+1) 111 p "Len").run Tryz.prog w= .ok (221,p) w:=by kernel_rfl
theorem zFI (p:Value) (k:Nat) (w:World):(method (k+1) 111 p "Used").run Tryz.prog w= .ok (224,p) w:=by kernel_rfl
theorem zCY (p:Value) (k:Nat) (w:World):(method (k+1) 111 p "Bytes").run Tryz.prog w= .ok (216,p) w:=by kernel_rfl
theorem iX (p:Value) (k:Nat) (w:World):(method (k+1) 111 p "Cell").run Tryz.prog w= .ok (217,p) w:=by kernel_rfl
theorem zFQ (p:Value) (k:Nat) (w:World):(method (k+1) 111 p "Find").run Tryz.prog w= .ok (218,p) w:=by kernel_rfl
theorem rV (p:Value) (k:Nat) (w:World):(method (k+1) 111 p "Insert").run Tryz.prog w= .ok (219,p) w:=by kernel_rfl
theorem zGN (p:Value) (k:Nat) (w:World):(method (k+1) 111 p "Set").run Tryz.prog w= .ok (223,p) w:=by kernel_rfl
theorem uN (p:Value) (k:Nat) (w:World):(method (k+1) 111 p "Remove").run Tryz.prog w= .ok (222,p) w:=by kernel_rfl
theorem zGQ (a:Addr) (k:Nat) (w:World):(nilAhead (k+1) 111 (.pointer (some a)) "Insert").run Tryz.prog w= .ok (some false) w:=by kernel_rfl
end Go.Proofs.YtfcnkpofcekmgaaGreat
