/- Texts joined. -/
import Derived.Test.YtfcnkpofcekmgaaGreatNQ6
import Derived.Lib.AppendZeros
import Derived.Lib.Overlaps
set_option maxRecDepth 100000
set_option maxHeartbeats 64000000
namespace Go.Proofs.YtfcnkpofcekmgaaGreat
open Go.RowKit
theorem RdCs.key_atW {w:World} {A:Option Addr} {m c i:Nat} {l:List CV} (h:RdCs w (.slice A m c) l) (hi:i<l.length):
 ∃ad B b,A=some ad∧w.cell? (ad.add (i*5))=some (.slice B l[i].c.key.length b)∧RdB w (.slice B l[i].c.key.length b) l[i].c.key:=by
 obtain ⟨ad,rfl,c0,-⟩:=h.at_ hi;have hx:=(h.ok _ (List.getElem_mem hi)).k;obtain ⟨B,b,he,-⟩:=hx.form;rw [he] at hx c0;exact ⟨ad,B,b,rfl,c0,hx⟩
theorem pQ {w:World} {p:Nat} {kind:Int} {P:Nat} {used:Int} {v:Value} {l:List CV} (h:PgAt w p kind P used v l) (hP:P≤65536) (x:CV) (hx:x.ok w) (hxl:x.c.key.length+x.c.val.length≤4611686018427387904) (i j:Nat) (hi:i≤l.length) (hj:j≤l.length) (less:Int) (hu:0≤used) (hu2:used≤65536) (hless:0≤less) (hless2:less≤65536):
 Calls Tryz.prog 208 #[.pointer (some ⟨p,0,none⟩),.int .i64 (i:Int),.int .i64 (j:Int),zJ x,.int .i64 less] w fun e w'=>
  e= .returned (.int .i64 (if zQ kind P x.c=false then 62 else if 0≤jB (pcs l) i x.c∨0≤yY (pcs l) j x.c then 63 else if (P:Int)<used-less+2+(z9 x.c:Int) then 61 else 0))∧Below w.heap.size w w':=by
 have hlq:zQ kind P x.c=true→z9 x.c≤65536:=fun hm=>cV (xY hm) hP;obtain ⟨A,ca,B,cb,key,ck,val,pg,ct,rfl,hk1,hk2⟩:=CV.form hx;obtain ⟨L,lc,rfl,hm,hc⟩:=h.rd.slice;have hA:Below w.heap.size w (w.alloc (.cells #[.slice A key.length ca,.int .i64 ck,.slice B val.length cb,.int .i64 pg,.int .i64 ct] 43)):=(Below.refl _ _).alloc (Nat.le_refl _) _;have hC:=OBlk.new' w 43 [.slice A key.length ca,.int .i64 ck,.slice B val.length cb,.int .i64 pg,.int .i64 ct];have hB:=h.blk.alloc (.cells #[.slice A key.length ca,.int .i64 ck,.slice B val.length cb,.int .i64 pg,.int .i64 ct] 43);have hx1:=hx.below hA;have hL:=h.rd.below hA;have hma:=fun W=>zBF ⟨.slice A key.length ca,.slice B val.length cb,⟨key,ck,val,pg,ct⟩⟩ kind P hP W;have hlo:=fun W=>qV ⟨.slice A key.length ca,.slice B val.length cb,⟨key,ck,val,pg,ct⟩⟩ W
 have hkv':key.length+val.length≤9223372036854775000:=by have:key.length+val.length≤4611686018427387904:=hxl;omega
 unfold zJ at hma hlo⊢;have hlo2:∀W,CV.ok W ⟨.slice A key.length ca,.slice B val.length cb,⟨key,ck,val,pg,ct⟩⟩→Calls Tryz.prog 128 #[.agg #[.slice A key.length ca,.int .i64 ck,.slice B val.length cb,.int .i64 pg,.int .i64 ct]] W fun e w'=>e= .returned (.int .i64 (z9 ⟨key,ck,val,pg,ct⟩:Nat))∧Below W.heap.size W w':=fun W hW=>hlo W hW hkv';have HM:=Lib.hid hma;have HL:=Lib.hid hlo2;obtain ⟨lO,hlO⟩:∃q,jB (pcs l) i ⟨key,ck,val,pg,ct⟩=q:=⟨_,rfl⟩;obtain ⟨rO,hrO⟩:∃q,yY (pcs l) j ⟨key,ck,val,pg,ct⟩=q:=⟨_,rfl⟩;obtain ⟨mB,hmB⟩:∃q,zQ kind P ⟨key,ck,val,pg,ct⟩=q:=⟨_,rfl⟩
 have hlq':mB=true→z9 ⟨key,ck,val,pg,ct⟩≤65536:=by rw [←hmB];exact hlq
 show Calls Tryz.prog _ _ w fun e w'=>e= .returned (.int .i64 (if zQ kind P ⟨key,ck,val,pg,ct⟩=false then 62 else if 0≤jB (pcs l) i ⟨key,ck,val,pg,ct⟩∨0≤yY (pcs l) j ⟨key,ck,val,pg,ct⟩ then 63 else if (P:Int)<used-less+2+(z9 ⟨key,ck,val,pg,ct⟩:Int) then 61 else 0))∧Below w.heap.size w w'
 rw [hlO,hrO,hmB]
 have HLO:Hid ((i=0∧lO= -1)∨∃k,i=k+1∧∃h:k<l.length,lO=yD l[k].c.key key):=Lib.hid (by
  rcases Nat.eq_zero_or_pos i with e|e
  ·exact .inl ⟨e,by rw [←hlO,e,sF]⟩
  ·obtain ⟨k,rfl⟩:∃k,i=k+1:=⟨i-1,by omega⟩;refine .inr ⟨k,rfl,by omega,?_⟩
   rw [←hlO,r8 _ (by rw [zA];omega),zV (by omega)])
 have HRO:Hid ((j=l.length∧rO= -1)∨∃h:j<l.length,rO=yD key l[j].c.key):=Lib.hid (by
  by_cases e:j<l.length
  ·refine .inr ⟨e,?_⟩;rw [←hrO,tZ _ (by rw [zA];omega),zV e]
  ·exact .inl ⟨by omega,by rw [←hrO,sA _ (by rw [zA];omega)]⟩)
 have HXK:=Lib.hid hx1.k;clear hlo hma hlo2 h hx hlq hxl hlO hrO;have hpl:=hB.lt
 obtain ⟨Z,hZ⟩:∃Z:Int,(if mB=false then 62 else if 0≤lO∨0≤rO then 63 else if (P:Int)<used-less+2+(z9 ⟨key,ck,val,pg,ct⟩:Int) then 61 else 0)=Z:=⟨_,rfl⟩
 rw [hZ];have HZ:=Lib.hid hZ;clear hZ;generalize z9 ⟨key,ck,val,pg,ct⟩=lo at*;go_enter Tryz.func208,Tryz.ntmps208;go_upto_region 1 with (fail);generalize (w.alloc (.cells #[.slice A key.length ca,.int .i64 ck,.slice B val.length cb,.int .i64 pg,.int .i64 ct] 43))=w1 at*;obtain ⟨c0,c1,c2,c3,c4⟩:=zC hC;obtain ⟨b0,b1,b2,b3⟩:=xP hB;have hcl:=hC.lt
 go_cut [11] (fun s wx=>s= .bool (!mB)∧Below w1.heap.size w1 wx)
 case first=>
  go_region_held3 (fun w'=>w'.cell? ⟨w.heap.size,0,none⟩=some (.slice A key.length ca)∧w'.cell? ⟨w.heap.size,1,none⟩=some (.int .i64 ck)∧w'.cell? ⟨w.heap.size,2,none⟩=some (.slice B val.length cb)∧w'.cell? ⟨w.heap.size,3,none⟩=some (.int .i64 pg)∧w'.cell? ⟨w.heap.size,4,none⟩=some (.int .i64 ct)∧w'.cell? ⟨p,0,none⟩=some (.int .i64 kind)∧w'.cell? ⟨p,1,none⟩=some (.int .i64 (P:Int)))
   (first
    |exact ⟨c0,c1,c2,c3,c4,b0,b1⟩
    |(obtain ⟨d0,d1,d2,d3,d4⟩:=zC (hC.drew.below hw2 hcl);obtain ⟨f0,f1,_,_⟩:=xP (hB.drew.below hw2 hpl);exact ⟨d0,d1,d2,d3,d4,f0,f1⟩))
   (first
    |(go_at_call 129;refine (HM.out _ (hx1.below ((Below.refl _ _).drew))).mono ?_;rw [hmB];rintro e w2 ⟨rfl,hw2⟩)
    |fail)
  go_wp2_with fail;go_meet;exact ⟨rfl,(Below.refl _ _).drew.trans hw2⟩
 case rest=>
  obtain ⟨rfl,hw2⟩:=hcut;have hB2:=hB.below hw2 hpl;have hA2:=hA.trans (hw2.mono hA.size)
  cases mB with
  |false=>
   have e:Z=62:=by rw [←HZ.out];rfl
   subst e;go_wp2_with fail;go_ret;exact ⟨rfl,hA2⟩
  |true=>
   have hC2:=hC.below hw2 hcl;have hx2:=hx1.below hw2;have hL2:=hL.below hw2;have hxk2:=HXK.out.below hw2 (Nat.le_refl _);have hlo1:lo≤65536:=hlq' rfl;clear c0 c1 c2 c3 c4 b0 b1 b2 b3 hC hB hx1 hL hA hw2 hlq';obtain ⟨c0,c1,c2,c3,c4⟩:=zC hC2;obtain ⟨b0,b1,b2,b3⟩:=xP hB2;have hcl2:=hC2.lt;have hpl2:=hB2.lt;go_upto_region 3 with (fail)
   go_cut [23] (fun s wx=>s= .bool (decide (0≤lO))∧Below wc.heap.size wc wx)
   case first=>
    rcases HLO.out with ⟨rfl,rfl⟩|⟨k,rfl,hk,rfl⟩
    ·go_region
     go_wp2_with fail;go_meet;exact ⟨rfl,(Below.refl _ _).drew⟩
    ·obtain ⟨ad,K,kc,rfl,q0,hkr⟩:=hL2.key_atW hk
     have j1:(0:Int)≤(k:Int):=by omega
     have j2:(k:Int)<(l.length:Int):=by omega
     have j4:IntKind.i64.wrap (k:Int)=(k:Int):=by rw [IntKind.wrap_i64];omega
     have j5:(0:Int)<(k:Int)+1:=by omega
     have hcmp:=fun m=>vE _ _ _ _ (wc.drewN m) (show RdB (wc.drewN m) _ _ from hkr) (show RdB (wc.drewN m) _ _ from hxk2);simp only at hcmp;have HCM:=Lib.hid hcmp;clear hcmp;generalize yD l[k].c.key key=oc at*;generalize l[k].c.key=lk at*
     go_region_held3 (fun w'=>w'.cell? (ad.add (k*5))=some (.slice K lk.length kc)∧w'.cell? ⟨w.heap.size,0,none⟩=some (.slice A key.length ca)∧w'.cell? ⟨p,3,none⟩=some (.slice (some ad) l.length lc))
      (first|exact ⟨q0,c0,b3⟩)
      (first
       |(go_at_call 130;refine (HCM.out 1).mono ?_;rintro e w7 ⟨rfl,rfl⟩)
       |fail)
     go_wp2_with fail;go_meet;exact ⟨rfl,(Below.refl _ _).drew⟩
   case rest=>
    obtain ⟨rfl,hw3⟩:=hcut;have hC3:=hC2.below hw3 hcl2;have hB3:=hB2.below hw3 hpl2;have hA3:=hA2.trans (hw3.mono hA2.size)
    by_cases hlO:0≤lO
    ·rw [show decide (0≤lO)=true from decide_eq_true hlO]
     have e:Z=63:=by rw [←HZ.out,if_neg (by simp),if_pos (Or.inl hlO)]
     subst e;clear hlO;go_wp2_with fail;go_ret;exact ⟨rfl,hA3⟩
    ·have hx3:=hx2.below hw3;have hL3:=hL2.below hw3;have hxk3:=hxk2.below hw3 (Nat.le_refl _);rw [show decide (0≤lO)=false from decide_eq_false hlO];have H1:=Lib.hid hlO;clear c0 c1 c2 c3 c4 b0 b1 b2 b3 hC2 hB2 hx2 hL2 hA2 hw3 hlO HLO hxk2;obtain ⟨c0,c1,c2,c3,c4⟩:=zC hC3;obtain ⟨b0,b1,b2,b3⟩:=xP hB3;have hcl3:=hC3.lt;have hpl3:=hB3.lt;go_upto_region 4 with (fail)
     go_cut [23] (fun s wx=>s= .bool (decide (0≤rO))∧Below wc.heap.size wc wx)
     case first=>
      rcases HRO.out with ⟨rfl,rfl⟩|⟨hj2,rfl⟩
      ·have j5:¬(l.length:Int)<(l.length:Int):=by omega
       go_region
       go_wp2_with fail;go_meet;exact ⟨rfl,(Below.refl _ _).drew⟩
      ·obtain ⟨ad,K,kc,rfl,q0,hkr⟩:=hL3.key_atW hj2
       have j1:(0:Int)≤(j:Int):=by omega
       have j2:(j:Int)<(l.length:Int):=by omega
       have hcmp:=fun m=>vE _ _ _ _ (wc.drewN m) (show RdB (wc.drewN m) _ _ from hxk3) (show RdB (wc.drewN m) _ _ from hkr);simp only at hcmp;have HCM:=Lib.hid hcmp;clear hcmp;generalize yD key l[j].c.key=oc at*;generalize l[j].c.key=lk at*
       go_region_held3 (fun w'=>w'.cell? (ad.add (j*5))=some (.slice K lk.length kc)∧w'.cell? ⟨w.heap.size,0,none⟩=some (.slice A key.length ca)∧w'.cell? ⟨p,3,none⟩=some (.slice (some ad) l.length lc))
        (first|exact ⟨q0,c0,b3⟩)
        (first
         |(go_at_call 130;refine (HCM.out 1).mono ?_;rintro e w7 ⟨rfl,rfl⟩)
         |fail)
       go_wp2_with fail;go_meet;exact ⟨rfl,(Below.refl _ _).drew⟩
     case rest=>
      obtain ⟨rfl,hw4⟩:=hcut;have hC4:=hC3.below hw4 hcl3;have hB4:=hB3.below hw4 hpl3;have hA4:=hA3.trans (hw4.mono hA3.size)
      by_cases hrO:0≤rO
      ·rw [show decide (0≤rO)=true from decide_eq_true hrO]
       have e:Z=63:=by rw [←HZ.out,if_neg (by simp),if_pos (Or.inr hrO)]
       subst e;clear hrO;go_wp2_with fail;go_ret;exact ⟨rfl,hA4⟩
      ·have hx4:=hx3.below hw4;rw [show decide (0≤rO)=false from decide_eq_false hrO];have H2:=Lib.hid hrO;clear c0 c1 c2 c3 c4 b0 b1 b2 b3 hC3 hB3 hx3 hL3 hA3 hw4 hrO HRO hxk3;obtain ⟨c0,c1,c2,c3,c4⟩:=zC hC4;obtain ⟨b0,b1,b2,b3⟩:=xP hB4;have hcl4:=hC4.lt;have hpl4:=hB4.lt
       have i1:IntKind.i64.wrap (used-less)=used-less:=by rw [IntKind.wrap_i64];omega
       have i2:IntKind.i64.wrap (used-less+2)=used-less+2:=by rw [IntKind.wrap_i64];omega
       have i3:IntKind.i64.wrap (used-less+2+(lo:Int))=used-less+2+(lo:Int):=by rw [IntKind.wrap_i64];omega
       go_upto_region 6 with (fail)
       go_region_held3 (fun w'=>w'.cell? ⟨w.heap.size,0,none⟩=some (.slice A key.length ca)∧w'.cell? ⟨w.heap.size,1,none⟩=some (.int .i64 ck)∧w'.cell? ⟨w.heap.size,2,none⟩=some (.slice B val.length cb)∧w'.cell? ⟨w.heap.size,3,none⟩=some (.int .i64 pg)∧w'.cell? ⟨w.heap.size,4,none⟩=some (.int .i64 ct)∧w'.cell? ⟨p,1,none⟩=some (.int .i64 (P:Int))∧w'.cell? ⟨p,2,none⟩=some (.int .i64 used))
        (first
         |exact ⟨c0,c1,c2,c3,c4,b1,b2⟩
         |(obtain ⟨d0,d1,d2,d3,d4⟩:=zC (OBlk.below (w:=wc.drew) hC4 hw5 hcl4);obtain ⟨_,f1,f2,_⟩:=xP (OBlk.below (w:=wc.drew) hB4 hw5 hpl4);exact ⟨d0,d1,d2,d3,d4,f1,f2⟩))
        (first
         |(go_at_call 128;refine (HL.out _ (hx4.below ((Below.refl _ _).drew))).mono ?_;rintro e w5 ⟨rfl,hw5⟩)
         |fail)
       have hA5:=hA4.trans (((Below.refl wc.heap.size wc).drew.trans hw5).mono hA4.size)
       by_cases hz:(P:Int)<used-less+2+(lo:Int)
       ·have e:Z=61:=by rw [←HZ.out,if_neg (by simp),if_neg (fun e=>by have h1:=H1.out;have h2:=H2.out;omega),if_pos hz]
        subst e;go_wp2_with fail;go_ret;exact ⟨rfl,hA5⟩
       ·have e:Z=0:=by rw [←HZ.out,if_neg (by simp),if_neg (fun e=>by have h1:=H1.out;have h2:=H2.out;omega),if_neg hz]
        subst e;go_wp2_with fail;go_ret;exact ⟨rfl,hA5⟩
set_option maxRecDepth 100000
abbrev cz:Value:= .agg #[.slice none 0 0,.int .i64 0,.slice none 0 0,.int .i64 0,.int .i64 0]
theorem s8 (w:World) (ty:TypeId) (g:Nat) (T':TypeId) (cs:List Value) (hg:OBlk w g T' cs)
 (dA:Option Addr) (dLen dCap off:Nat) (hd:0<dLen→dA=some ⟨g,off,none⟩) (hfit:off+dLen*5≤cs.length)
 (vx:Value) (m:Nat) (news:List Value) (hr:Rd w 5 vx m news) (h1:∀u∈news.take (min m dLen*5),u.oneCell'=true):
 (Builtin.copy_ #[32,32] ty #[.slice dA dLen dCap,vx]).run Tryz.prog w= .ok (goInt (min m dLen:Nat)) (w.setCells g off (news.take (min m dLen*5))):=by
 obtain ⟨i,hi,hz0,hz1,hz2⟩:=info_parts vP;obtain ⟨hl,A,c,rfl,hc1,hc2,hcells⟩:=hr;have hmin:Nat.min m dLen=min m dLen:=rfl
 by_cases h0:min m dLen=0
 ·rw [h0]
  have hl0:∀(x:Addr),(loadCells x 0).run Tryz.prog w= .ok #[] w:=fun x=>by simpa using run_loadCells_list (P:=Tryz.prog) w x [] (by simp)
  cases dA<;>cases A<;>simp [Builtin.copy_,run_underlying Tryz.underlying32,sizeOf,typeInfo,hi,Builtin.lenOf,hmin,h0,Builtin.firstCells,storeCells,hl0,World.setCells]
 ·obtain rfl:=hd (by omega);obtain ⟨a,rfl,_⟩:=hcells 0 _ (List.getElem?_eq_getElem (by omega))
  have hnews:∀j u,(news.take (min m dLen*5))[j]? =some u→w.cell? (a.add j)=some u:=fun j u hj=>by
   rw [List.getElem?_take] at hj
   split at hj
   ·obtain ⟨a',he,h⟩:=hcells j u hj;injection he with he;subst he;exact h
   ·cases hj
  have hlen:(news.take (min m dLen*5)).length=min m dLen*5:=by rw [List.length_take];omega
  have hf:=run_firstCells_some (P:=Tryz.prog) w 5 (min m dLen) a m c (news.take (min m dLen*5)) hlen hnews
  have hst:=run_storeCells_cells (P:=Tryz.prog) g off (news.take (min m dLen*5)) 0 w
   (fun j hj=>by rw [hg.cell];simp;omega) (fun j hj=>hg.frozen (by omega)) h1
  simp only [Nat.add_zero] at hst;simp [Builtin.copy_,run_underlying Tryz.underlying32,sizeOf,typeInfo,hi,hz1,Builtin.lenOf,hmin,hf,hst]
section laws
variable {w:World} {ops:Array Oper} {rest:List Oper} {o:Oper} {a:Act} {Q:Exit→Act→World→Prop}
theorem wR (hgd:o.guard=none) (d s:Operand)
 (ho:o.op= .call {callee:= .builtin .copy,args:= #[d,s],argTypes:= #[32,32]})
 (g:Nat) (T':TypeId) (cs:List Value) (hg:OBlk w g T' cs) (dA:Option Addr) (dLen dCap off:Nat) (hd':a.eval d= .slice dA dLen dCap) (hd:0<dLen→dA=some ⟨g,off,none⟩) (hfit:off+dLen*5≤cs.length)
 (vx:Value) (m:Nat) (news:List Value) (hx:a.eval s=vx) (hr:Rd w 5 vx m news) (h1:∀u∈news.take (min m dLen*5),u.oneCell'=true)
 (h:∀w',OBlk w' g T' (splice cs off (news.take (min m dLen*5)))→w.grownBy w' (some g)→wpList Tryz.prog ops Q rest (a.put o.dst (goInt (min m dLen:Nat))) w'):wpList Tryz.prog ops Q (o::rest) a w:=by
 refine wpList_plain hgd fun K hK=> ?_;have hrun:=s8 w o.type g T' cs hg dA dLen dCap off hd hfit vx m news hr h1;have hl:=hr.1;unfold Oper.wp;simp [execOp,ho,resolve,invoke,builtin,hd',hx,hrun,Result.andThen];refine hK _ _ (h _ (OBlk.setCells _ _ _ _ hg ?_) (yX _ _ _ _));rw [List.length_take];omega
theorem pN {K:Act→World→Prop} {E:Prop} (hgd:o.guard=none) (d s:Operand)
 (ho:o.op= .call {callee:= .builtin .copy,args:= #[d,s],argTypes:= #[32,32]})
 (g:Nat) (T':TypeId) (cs:List Value) (hg:OBlk w g T' cs) (dA:Option Addr) (dLen dCap off:Nat) (hd':a.eval d= .slice dA dLen dCap) (hd:0<dLen→dA=some ⟨g,off,none⟩) (hfit:off+dLen*5≤cs.length)
 (vx:Value) (m:Nat) (news:List Value) (hx:a.eval s=vx) (hr:Rd w 5 vx m news) (h1:∀u∈news.take (min m dLen*5),u.oneCell'=true)
 (h:∀w',OBlk w' g T' (splice cs off (news.take (min m dLen*5)))→w.grownBy w' (some g)→K (a.put o.dst (goInt (min m dLen:Nat))) w'):
 if Region.wanted o (yielded ops a.tmps)=true then Oper.wp Tryz.prog o a w K Q else E:=by
 have hw:Region.wanted o (yielded ops a.tmps)=true:=by simp [Region.wanted,hgd]
 rw [if_pos hw];have hrun:=s8 w o.type g T' cs hg dA dLen dCap off hd hfit vx m news hr h1;have hl:=hr.1;unfold Oper.wp;simp [execOp,ho,resolve,invoke,builtin,hd',hx,hrun,Result.andThen];refine h _ (OBlk.setCells _ _ _ _ hg ?_) (yX _ _ _ _);rw [List.length_take];omega
end laws
theorem zIQ (g n c hi:Nat) (h:hi≤c) (w:World):(Instr.slice 32 (.slice (some ⟨g,0,none⟩) n c) none (some (.int .i64 (hi:Int))) none).run Tryz.prog w= .ok (.slice (some ⟨g,0,none⟩) hi c) w:=by
 have:=run_slice_h (P:=Tryz.prog) w 32 (some ⟨g,0,none⟩) n c kU .i64 hi (by omega) (by omega)
 rw [this,jT];simp [Result.andThen,sliced,Addr.add]
@[irreducible] def slA (g c lo:Nat):Addr:=if c=lo then ⟨g,0,none⟩ else ⟨g,lo*5,none⟩
theorem cI {g c lo:Nat} (h:lo<c):slA g c lo=⟨g,lo*5,none⟩:=by unfold slA;exact if_neg (by omega)
theorem aD (g c:Nat):slA g c 0=⟨g,0,none⟩:=by unfold slA;split<;>rfl
theorem lB (g c lo:Nat):(if c=lo then (some ⟨g,0,none⟩:Option Addr) else some ((⟨g,0,none⟩:Addr).add (lo*5)))=some (slA g c lo):=by
 unfold slA
 split
 ·rfl
 ·rw [vH,Nat.zero_add]
theorem zCJ (g n c lo:Nat) (h:lo≤n) (w:World):(Instr.slice 32 (.slice (some ⟨g,0,none⟩) n c) (some (.int .i64 (lo:Int))) none none).run Tryz.prog w= .ok (.slice (some (slA g c lo)) (n-lo) (c-lo)) w:=by
 have:=run_slice_l (P:=Tryz.prog) w 32 (some ⟨g,0,none⟩) n c kU .i64 lo (by omega) (by omega)
 rw [this,jT,←lB];simp [Result.andThen,sliced]
theorem zKG (A:Option Addr) (n c lo:Nat) (h:lo≤n):∃X,∀w,(Instr.slice 32 (.slice A n c) (some (.int .i64 (lo:Int))) none none).run Tryz.prog w= .ok (.slice X (n-lo) (c-lo)) w:=by
 refine ⟨if c=lo then A else A.map (·.add (lo*5)),fun w=> ?_⟩
 have:=run_slice_l (P:=Tryz.prog) w 32 A n c kU .i64 lo (by omega) (by omega)
 rw [this,jT];simp [Result.andThen,sliced]
theorem zKE (g n c lo hi:Nat) (h:lo≤hi) (h2:hi≤c) (w:World):(Instr.slice 32 (.slice (some ⟨g,0,none⟩) n c) (some (.int .i64 (lo:Int))) (some (.int .i64 (hi:Int))) none).run Tryz.prog w= .ok (.slice (some (slA g c lo)) (hi-lo) (c-lo)) w:=by
 have:=run_slice_lh (P:=Tryz.prog) w 32 (some ⟨g,0,none⟩) n c kU .i64 .i64 lo hi (by omega) (by omega) (by omega)
 rw [this,jT,←lB];simp [Result.andThen,sliced]
theorem zIV (g n c lo hi mx:Nat) (h:lo≤hi) (h2:hi≤mx) (h3:mx≤c) (w:World):(Instr.slice 32 (.slice (some ⟨g,0,none⟩) n c) (some (.int .i64 (lo:Int))) (some (.int .i64 (hi:Int))) (some (.int .i64 (mx:Int)))).run Tryz.prog w= .ok (.slice (some (slA g mx lo)) (hi-lo) (mx-lo)) w:=by
 have:=run_slice_lhm (P:=Tryz.prog) w 32 (some ⟨g,0,none⟩) n c kU .i64 .i64 .i64 lo hi mx (by omega) (by omega) (by omega) (by omega)
 rw [this,jT,←lB];simp [Result.andThen,sliced]
theorem OBlk.rd5 {w:World} {g c lo m:Nat} {T:TypeId} {cs:List Value} (h:OBlk w g T cs) (h1:lo+m≤c) (h2:c*5≤cs.length) (h3:c≤maxLen):Rd w 5 (.slice (some (slA g c lo)) m (c-lo)) m ((cs.drop (lo*5)).take (m*5)):=by
 refine ⟨by rw [List.length_take,List.length_drop];omega,_,_,rfl,by omega,by omega,fun j u hj=>⟨_,rfl,?_⟩⟩;rw [List.getElem?_take] at hj
 split at hj
 ·rename_i hlt
  rw [cI (by omega),vH,h.cell,←List.getElem?_drop];exact hj
 ·cases hj
theorem cJ (w:World) (ty:TypeId) (base:Option Addr) (sLen sCap n:Nat) (olds:List Value) (hold:(Builtin.firstCells 5 sLen (.slice base sLen sCap)).run Tryz.prog w.drew= .ok olds.toArray w.drew) (h0:¬n=0) (hg:sCap<sLen+n) (h48:(sLen+n)*72≤140737488355328):
 (Builtin.append_ #[32,3] ty #[.slice base sLen sCap,.int .i64 (n:Int)]).run Tryz.prog w=
  .ok (.slice (some ⟨w.heap.size,0,none⟩) (sLen+n) (grownCap w (sLen+n) sCap 43)) (w.drew.alloc (.cells ((olds++(Builtin.zeroCells cz.cells n).toList).toArray++Builtin.zeroCells cz.cells (grownCap w (sLen+n) sCap 43-(sLen+n))) 43)):=by
 obtain ⟨i,hi,hz0,hz1,hz2⟩:=info_parts vP
 have hw:IntKind.i64.wrap (n:Int)=n:=by rw [IntKind.wrap_i64];omega
 have hneg:¬((n:Int)<0):=by omega
 have h48i:¬(281474976710656<(n:Int)*72):=by omega
 have hn:¬(sLen+n≤sCap):=by omega
 have h63':¬(9223372036854775807<((sLen:Int)+(n:Int))):=by omega
 have hfit:Builtin.nextslicecap (sLen+n) sCap*72≤281474976710656:=growslice_fits (by omega) (by omega)
 have h48':¬(281474976710656<Builtin.nextslicecap (sLen+n) sCap*72):=by omega
 have hns:¬(n*5=0):=by omega
 simp [hns,Builtin.append_,run_underlying Tryz.underlying32,run_underlying Tryz.underlying3,sizeOf,typeInfo,zeroValue,hi,hz0,hz1,hz2,asInt,asIntOf,hw,hneg,h48i,hn,h63',h48',Question.forced,hold,newRow,grownCap]
 congr 2
 apply Array.ext';simp [List.append_assoc]
section laws
variable {w:World} {ops:Array Oper} {rest:List Oper} {o:Oper} {a:Act} {Q:Exit→Act→World→Prop}
theorem wU (hgd:o.guard=none) (s x:Operand)
 (ho:o.op= .call {callee:= .builtin .append,args:= #[s,x],argTypes:= #[32,3]})
 (base:Option Addr) (sLen sCap n:Nat) (olds:List Value) (hs:a.eval s= .slice base sLen sCap) (hr:Rd w 5 (.slice base sLen sCap) sLen olds) (X:Int) (hX:X=(n:Int)) (hx:a.eval x= .int .i64 X) (h0:¬n=0) (hg:sCap<sLen+n) (h48:(sLen+n)*72≤140737488355328) (N:Nat) (hN:sLen+n=N)
 (h:∀cap zs w',OBlk w' w.heap.size 43 (olds++zs)→N≤cap→cap≤maxLen→zs.length=(cap-sLen)*5→Below w.heap.size w w'→wpList Tryz.prog ops Q rest (a.put o.dst (.slice (some ⟨w.heap.size,0,none⟩) N cap)) w'):
 wpList Tryz.prog ops Q (o::rest) a w:=by
 subst hX hN;obtain ⟨hl,A,c,hv,hc1,hc2,hcells⟩:=hr;injection hv with hA hn' hc;subst hA hc
 have hold:(Builtin.firstCells 5 sLen (.slice base sLen sCap)).run Tryz.prog w.drew= .ok olds.toArray w.drew:=by
  cases base with
  |none=>
   have hs0:sLen=0:=by
    rcases Nat.eq_zero_or_pos sLen with e|e
    ·exact e
    ·obtain ⟨_,he,_⟩:=hcells 0 _ (List.getElem?_eq_getElem (by omega))
     cases he
   subst hs0
   have:olds= []:=List.eq_nil_of_length_eq_zero (by simpa using hl)
   subst this;simp [Builtin.firstCells]
  |some ad=>
   exact run_firstCells_some w.drew 5 sLen ad sLen sCap olds hl (fun j u hj=>by
    obtain ⟨a',he,h⟩:=hcells j u hj;injection he with he
    subst he;exact h)
 have hrun:=cJ w o.type base sLen sCap n olds hold h0 hg h48;have hge:=grownCap_ge w (sLen+n) sCap 43;have hcm:grownCap w (sLen+n) sCap 43≤maxLen:=grownCap_le_maxLen w (sLen+n) sCap 43 (by simp only [maxLen];omega);refine Lib.wpList_append_run w hgd s x _ _ ho _ _ hs hx _ _ hrun (h _ ((Builtin.zeroCells cz.cells n).toList++(Builtin.zeroCells cz.cells (grownCap w (sLen+n) sCap 43-(sLen+n))).toList) _ ?_ hge hcm ?_ ?_)
 ·have:=OBlk.new w.drew 43 ((olds++(Builtin.zeroCells cz.cells n).toList).toArray++Builtin.zeroCells cz.cells (grownCap w (sLen+n) sCap 43-(sLen+n)))
  rw [Array.toList_append,List.toList_toArray,List.append_assoc] at this;exact this
 ·rw [List.length_append,Array.length_toList,Array.length_toList,size_zeroCells,size_zeroCells]
  show n*5+(grownCap w (sLen+n) sCap 43-(sLen+n))*5=_
  omega
 ·exact ((Below.refl _ _).drew).alloc (Nat.le_refl _) _
end laws
theorem oG (w:World) (ty:TypeId) (g off c:Nat) (T:TypeId) (cs:List Value) (hg:OBlk w g T cs) (hfit:off+5≤cs.length):
 (Builtin.clear_ #[32] ty #[.slice (some ⟨g,off,none⟩) 1 c]).run Tryz.prog w= .ok (.tuple #[]) (w.setCells g off [.slice none 0 0,.int .i64 0,.slice none 0 0,.int .i64 0,.int .i64 0]):=by
 obtain ⟨i,hi,hz0,hz1,hz2⟩:=info_parts vP
 have hz:(Builtin.zeroCells cz.cells 1).toList= [.slice none 0 0,.int .i64 0,.slice none 0 0,.int .i64 0,.int .i64 0]:=by kernel_rfl
 have hst:=run_storeCells_cells (P:=Tryz.prog) g off [.slice none 0 0,.int .i64 0,.slice none 0 0,.int .i64 0,.int .i64 0] 0 w (fun j hj=>by rw [hg.cell];simp at hj⊢;omega) (fun j hj=>hg.frozen (by simp at hj;omega)) (by simp [Value.oneCell']);simp only [Nat.add_zero] at hst;simp only [cz] at hz;simp [Builtin.clear_,run_underlying Tryz.underlying32,zeroValue,typeInfo,hi,hz0,hz,hst]
theorem uS {w:World} {ops:Array Oper} {rest:List Oper} {o:Oper} {a:Act} {Q:Exit→Act→World→Prop} (hgd:o.guard=none) (s:Operand)
 (ho:o.op= .call {callee:= .builtin .clear,args:= #[s],argTypes:= #[32]}) (g off c:Nat) (hs:a.eval s= .slice (some ⟨g,off,none⟩) 1 c) (T:TypeId) (cs:List Value) (hg:OBlk w g T cs) (hfit:off+5≤cs.length)
 (h:∀w',OBlk w' g T (splice cs off [.slice none 0 0,.int .i64 0,.slice none 0 0,.int .i64 0,.int .i64 0])→w.grownBy w' (some g)→wpList Tryz.prog ops Q rest (a.put o.dst (.tuple #[])) w'):wpList Tryz.prog ops Q (o::rest) a w:=by
 refine wpList_plain hgd fun K hK=> ?_;have hrun:=oG w o.type g off c T cs hg hfit;unfold Oper.wp;simp [execOp,ho,resolve,invoke,builtin,hs,hrun,Result.andThen];exact hK _ _ (h _ (OBlk.setCells _ _ _ _ hg (by simpa using hfit)) (yX _ _ _ _))
theorem zD6 {P:Program} {w:World} {ops:Array Oper} {rest:List Oper} {a:Act} {Q:Exit→Act→World→Prop} {d:Option Tmp} {x:Operand} {t ty:TypeId} {pos:String} {af:Array Edge} {gd:Option (Nat×Bool)}
 (h:wpList P ops Q ({dst:=d,op:=Op.call {callee:=Callee.builtin Builtin.clear,args:= #[x],argTypes:= #[t]},type:=ty,pos:=pos,after:=af,guard:=gd}::rest) a w):
 wpList P ops Q ({dst:=d,op:=Op.call {callee:=Callee.builtin Builtin.clear,args:= #[x],argTypes:= #[t]},type:=ty,pos:=pos,after:=af,guard:=gd}::rest) a w:=h
set_option maxRecDepth 100000
theorem Own.some5 {w:World} {b n c size:Nat} {T:TypeId} {A:Option Addr} {xs:List Value} (h:Own w b T size (.slice A n c) n xs) (h0:0<n):∃g,A=some ⟨g,0,none⟩:=by
 rcases h.form with ⟨_,h1⟩|⟨g,cap,h1,_⟩
 ·omega
 ·injection h1 with hA;exact ⟨g,hA⟩
theorem Own.blk5 {w:World} {b n c g:Nat} {xs:List Value} (h:Own w b 43 5 (.slice (some ⟨g,0,none⟩) n c) n xs):∃cs,OBlk w g 43 cs∧n≤c∧c≤maxLen∧cs.length=c*5∧cs.take (n*5)=xs∧b≤g:=by
 rcases h.2 with ⟨h1,_⟩|⟨g',cap,cs,h1,hb,hg,h2,h3,h4,h5⟩
 ·cases h1
 ·injection h1 with hA _ hc;injection hA with hA;injection hA with hA;subst hA;subst hc;exact ⟨cs,hg,h2,h3,h4,h5,hb⟩
theorem bD (pre mid post new:List Value) (o:Nat) (ho:pre.length=o) (h:mid.length=new.length):splice (pre++(mid++post)) o new=pre++(new++post):=by
 subst ho;unfold splice;rw [List.take_left,←List.append_assoc pre mid post,←h,←List.length_append,List.drop_left]
theorem zCM {cs xs y:List Value} {n i:Nat} (hx:cs.take (n*5)=xs) (hi:i≤n) (hc:(n+1)*5≤cs.length) (hy:y.length=5):
 (splice (splice cs ((i+1)*5) ((cs.drop (i*5)).take ((n-i)*5))) (i*5) y).take ((n+1)*5)=xs.take (i*5)++(y++xs.drop (i*5)):=by
 subst hx;obtain ⟨Z,hZ⟩:∃Z,Z=(cs.drop (i*5)).take 5:=⟨_,rfl⟩;obtain ⟨R',hR'⟩:∃R',R'=(cs.drop ((i+1)*5)).take ((n-i)*5):=⟨_,rfl⟩;obtain ⟨S,hS⟩:∃S,S=cs.drop ((n+1)*5):=⟨_,rfl⟩;obtain ⟨R,hR⟩:∃R,R=(cs.drop (i*5)).take ((n-i)*5):=⟨_,rfl⟩
 have lZ:Z.length=5:=by rw [hZ,List.length_take,List.length_drop];omega
 have lR':R'.length=(n-i)*5:=by rw [hR',List.length_take,List.length_drop];omega
 have lR:R.length=(n-i)*5:=by rw [hR,List.length_take,List.length_drop];omega
 have lP:(cs.take (i*5)).length=i*5:=by rw [List.length_take];omega
 have e1:cs.drop ((i+1)*5)=R'++S:=by
  have:=(List.take_append_drop ((n-i)*5) (cs.drop ((i+1)*5))).symm
  rw [List.drop_drop,show (i+1)*5+(n-i)*5=(n+1)*5 by omega,←hR',←hS] at this;exact this
 have e2:cs.drop (i*5)=Z++(R'++S):=by
  have:=(List.take_append_drop 5 (cs.drop (i*5))).symm
  rw [List.drop_drop,show i*5+5=(i+1)*5 by omega,←hZ,e1] at this;exact this
 have e3:cs=(cs.take (i*5)++Z)++(R'++S):=by
  rw [List.append_assoc,←e2,List.take_append_drop]
 have e4:splice cs ((i+1)*5) R=(cs.take (i*5)++Z)++(R++S):=by
  conv=>lhs;rw [e3]
  exact bD _ _ _ _ _ (by rw [List.length_append];omega) (by omega)
 have e5:(cs.take (n*5)).take (i*5)=cs.take (i*5):=by rw [List.take_take,Nat.min_eq_left (by omega)]
 have e6:(cs.take (n*5)).drop (i*5)=R:=by rw [hR,List.drop_take];congr 1;omega
 rw [←hR,e4,List.append_assoc,bD _ Z _ y (i*5) lP (by omega),e5,e6,←List.append_assoc y R S,←List.append_assoc];refine List.take_left' ?_;simp only [List.length_append];omega
theorem eQ {xs zs y:List Value} {n i cap:Nat} (hx:xs.length=n*5) (hi:i≤n) (hz:zs.length=(cap-i)*5) (hc:n+1≤cap) (hy:y.length=5):
 (splice (splice (xs.take (i*5)++zs) (i*5) y) ((i+1)*5) (xs.drop (i*5))).take ((n+1)*5)=xs.take (i*5)++(y++xs.drop (i*5)):=by
 have lP:(xs.take (i*5)).length=i*5:=by rw [List.length_take];omega
 have lR:(xs.drop (i*5)).length=(n-i)*5:=by rw [List.length_drop];omega
 have e1:zs=zs.take 5++zs.drop 5:=(List.take_append_drop 5 zs).symm;have e2:zs.drop 5=(zs.drop 5).take ((n-i)*5)++(zs.drop 5).drop ((n-i)*5):=(List.take_append_drop _ _).symm
 have l1:(zs.take 5).length=5:=by rw [List.length_take];omega
 have l2:((zs.drop 5).take ((n-i)*5)).length=(n-i)*5:=by rw [List.length_take,List.length_drop];omega
 have e3:splice (xs.take (i*5)++zs) (i*5) y=xs.take (i*5)++(y++zs.drop 5):=by
  conv=>lhs;rw [e1]
  exact bD _ _ _ _ _ lP (by omega)
 rw [e3,←List.append_assoc,e2,bD _ _ _ (xs.drop (i*5)) ((i+1)*5) (by rw [List.length_append];omega) (by omega),←List.append_assoc,List.append_assoc (xs.take (i*5)) y];refine List.take_left' ?_;simp only [List.length_append];omega
theorem zDD {cs xs z:List Value} {n i:Nat} (hx:cs.take (n*5)=xs) (hi:i<n) (hc:n*5≤cs.length) (_hz:z.length=5):
 (splice (splice cs (i*5) ((cs.drop ((i+1)*5)).take ((n-(i+1))*5))) ((n-1)*5) z).take ((n-1)*5)=xs.take (i*5)++xs.drop ((i+1)*5):=by
 subst hx
 have lR:((cs.drop ((i+1)*5)).take ((n-(i+1))*5)).length=(n-(i+1))*5:=by rw [List.length_take,List.length_drop];omega
 have e5:(cs.take (n*5)).take (i*5)=cs.take (i*5):=by rw [List.take_take,Nat.min_eq_left (by omega)]
 have e6:(cs.take (n*5)).drop ((i+1)*5)=(cs.drop ((i+1)*5)).take ((n-(i+1))*5):=by rw [List.drop_take];congr 1;omega
 have e7:=fX cs (i*5) ((cs.drop ((i+1)*5)).take ((n-(i+1))*5)) (by omega);rw [lR,show i*5+(n-(i+1))*5=(n-1)*5 by omega] at e7;rw [sE _ _ _ (by rw [length_splice _ _ _ (by omega)];omega) _ (Nat.le_refl _),e7,e5,e6]
theorem tI (l:List CV) (i:Nat) (y:CV):(zF l).take (i*5)++(y.cells++(zF l).drop (i*5))=zF (l.take i++y::l.drop i):=by
 rw [vK,gC,show zF (y::l.drop i)=y.cells++zF (l.drop i) from rfl,gK]
theorem zC1 (l:List CV) (i:Nat):(zF l).take (i*5)++(zF l).drop ((i+1)*5)=zF (l.take i++l.drop (i+1)):=by
 rw [vK,gC,gK]
def wQ (w:World) (u:Value) (l':List CV) (e:Ending) (w':World):Prop:=
 ∃v',e= .returned v'∧Own w' 0 43 5 v' l'.length (zF l')∧Turn (fun g=>u.ownBlock=some g) w w'∧(∀k,v'.ownBlock=some k→u.ownBlock=some k∨w.heap.size≤k)
section
variable {w:World} {l:List CV} {u:Value}
theorem eW (hu:Own w 0 43 5 u l.length (zF l)) (y:CV) (hy:∀v∈y.cells,v.oneCell'=true) (hn:(l.length+1)*72≤140737488355328):
 Calls Tryz.prog 209 #[u,.int .i64 (l.length:Int),.slice (some ⟨w.heap.size,0,none⟩) 1 1] (w.alloc (.cells #[y.kv,.int .i64 y.c.kind,y.vv,.int .i64 y.c.page,.int .i64 y.c.count] 43))
  (wQ w u (l++ [y])):=by
 have hsrc:=Rd.five w y.kv (.int .i64 y.c.kind) y.vv (.int .i64 y.c.page) (.int .i64 y.c.count) 43;have hA:Below w.heap.size w (w.alloc (.cells #[y.kv,.int .i64 y.c.kind,y.vv,.int .i64 y.c.page,.int .i64 y.c.count] 43)):=(Below.refl _ _).alloc (Nat.le_refl _) _;have hu2:=hu.alloc (.cells #[y.kv,.int .i64 y.c.kind,y.vv,.int .i64 y.c.page,.int .i64 y.c.count] 43);have hz:=World.size_alloc w (.cells #[y.kv,.int .i64 y.c.kind,y.vv,.int .i64 y.c.page,.int .i64 y.c.count] 43);obtain ⟨A,c,rfl⟩:=Own.slice hu;obtain ⟨_,A',c',hv,hc1,hc2,_⟩:=hu.rd;injection hv with hA1 _ hc';subst hA1 hc';have hc3:c≤9223372036854775807:=hc2;generalize w.alloc (.cells #[y.kv,.int .i64 y.c.kind,y.vv,.int .i64 y.c.page,.int .i64 y.c.count] 43)=w1 at*;go_enter Tryz.func209,Tryz.ntmps209;obtain ⟨X,hsl⟩:=zKG A l.length c l.length (Nat.le_refl _)
 go_wp2_with (first
  |(at_builtin;refine yP rfl (.tmp 23) (.tmp 24) rfl 0 (.slice A l.length c) l rfl hu2 (.slice (some ⟨w.heap.size,0,none⟩) 1 1) [y] rfl hsrc (by simpa [zF] using hy) (by simpa using hn) (Nat.zero_le _) ?_;intro v' w' ho' hg' hk';obtain ⟨B',b',rfl⟩:=Own.slice ho';simp only [List.length_append,List.length_singleton] at ho' hk')
  |fail)
 go_ret;refine ⟨.slice B' (l.length+1) b',rfl,by simpa using ho',⟨hg'.os.trans hA.os,hg'.tape.trans hA.tape,hg'.output.trans hA.output,Nat.le_trans hA.size hg'.size,fun k hk hne=> ?_⟩,fun k hk=> ?_⟩
 ·exact (hg'.block k (Nat.lt_of_lt_of_le hk hA.size) (fun e=>hne e.symm)).trans (hA.block k hk)
 ·rcases hk' with e|e
  ·exact .inl (e.symm.trans hk)
  ·right
   have:=e.symm.trans hk
   injection this with this;omega
theorem aL {A:Option Addr} {c:Nat} (hu:Own w 0 43 5 (.slice A l.length c) l.length (zF l)) (hl:∀v∈zF l,v.oneCell'=true) (y:CV) (hy:∀v∈y.cells,v.oneCell'=true) (hn:(l.length+1)*72≤140737488355328) (i:Nat) (hi:i<l.length) (hc:c<l.length+1):
 Calls Tryz.prog 209 #[.slice A l.length c,.int .i64 (i:Int),.slice (some ⟨w.heap.size,0,none⟩) 1 1] (w.alloc (.cells #[y.kv,.int .i64 y.c.kind,y.vv,.int .i64 y.c.page,.int .i64 y.c.count] 43))
  (wQ w (.slice A l.length c) (l.take i++y::l.drop i)):=by
 obtain ⟨g,rfl⟩:=hu.some5 (by omega);have hsrc:=Rd.five w y.kv (.int .i64 y.c.kind) y.vv (.int .i64 y.c.page) (.int .i64 y.c.count) 43;have hA:Below w.heap.size w (w.alloc (.cells #[y.kv,.int .i64 y.c.kind,y.vv,.int .i64 y.c.page,.int .i64 y.c.count] 43)):=(Below.refl _ _).alloc (Nat.le_refl _) _;have hu2:=hu.alloc (.cells #[y.kv,.int .i64 y.c.kind,y.vv,.int .i64 y.c.page,.int .i64 y.c.count] 43);have hz:=World.size_alloc w (.cells #[y.kv,.int .i64 y.c.kind,y.vv,.int .i64 y.c.page,.int .i64 y.c.count] 43);generalize w.alloc (.cells #[y.kv,.int .i64 y.c.kind,y.vv,.int .i64 y.c.page,.int .i64 y.c.count] 43)=w1 at*;obtain ⟨cs,hb,h1,h2,h3,h4,-⟩:=hu2.blk5;have hc3:c≤9223372036854775807:=h2
 have hr1:Rd w1 5 (.slice (some ⟨g,0,none⟩) i c) i ((zF l).take (i*5)):=by
  have:=hb.rd5 (lo:=0) (m:=i) (c:=c) (by omega) (by omega) h2
  rw [aD,Nat.zero_mul,Nat.sub_zero,List.drop_zero,←show (cs.take (l.length*5)).take (i*5)=cs.take (i*5) by rw [List.take_take,Nat.min_eq_left (by omega)],h4] at this;exact this
 have hfl:=jL l;have s1:=fun W=>zCJ g l.length c i (by omega) W;have s2:=fun W=>zIQ g l.length c i (by omega) W;obtain ⟨G,hG⟩:∃G,w1.heap.size=G:=⟨_,rfl⟩;obtain ⟨X1,hX1⟩:∃X,slA g c i=X:=⟨_,rfl⟩;rw [hX1] at s1;have HZ:=Lib.hid hz;clear hz
 have i1:((l.length:Int)+1)-(i:Int)=((l.length+1-i:Nat):Int):=by omega
 have i2:¬(i:Int)=(l.length:Int):=by omega
 have i3:(c:Int)<(l.length:Int)+1:=by omega
 have i4:IntKind.i64.wrap ((l.length:Int)+1)=(l.length:Int)+1:=by rw [IntKind.wrap_i64];omega
 have i5:IntKind.i64.wrap ((i:Int)+1)=(i:Int)+1:=by rw [IntKind.wrap_i64];omega
 have i6:IntKind.i64.wrap ((l.length:Int)+1-(i:Int))=(l.length:Int)+1-(i:Int):=by rw [IntKind.wrap_i64];omega
 go_enter Tryz.func209,Tryz.ntmps209
 go_upto_region 11 with (first
  |(at_builtin;refine wU rfl (.tmp 34) (.tmp 39) rfl (some ⟨g,0,none⟩) i c (l.length+1-i) ((zF l).take (i*5)) rfl hr1 _ (by first|rfl|exact i1|omega) rfl (by omega) (by omega) (by omega) (l.length+1) (by omega) ?_;rw [hG];intro cap zs w2 hb2 k1 k2 k3 hw2)
  |((with_reducible refine dM ?_);refine wR rfl (.tmp 43) (.tmp 44) rfl G _ _ hb2 (some ⟨G,i*5,none⟩) (l.length+1-i) (cap-i) (i*5) rfl (fun _=>rfl) (by rw [List.length_append,List.length_take];omega) (.slice (some ⟨w.heap.size,0,none⟩) 1 1) 1 _ rfl (hsrc.below hw2 (Nat.le_of_eq hG)) (fun u hu=>hy u (List.mem_of_mem_take hu)) ?_;intro w3 hb3 hg3)
  |fail)
 rw [show min 1 (l.length+1-i)=1 by omega,show List.take (1*5) [y.kv,Value.int IntKind.i64 y.c.kind,y.vv,Value.int IntKind.i64 y.c.page,Value.int IntKind.i64 y.c.count]=y.cells from rfl] at hb3;have hgl:=hb.lt;have hbg:=(hb.below hw2 (by omega)).grown hg3 (by intro e;injection e with e;omega);obtain ⟨X4,hX4⟩:∃X,slA G cap (i+1)=X:=⟨_,rfl⟩
 have hd4:0<l.length-i→some X4=some (⟨G,(i+1)*5,none⟩:Addr):=fun _=>by rw [←hX4,cI (by omega)]
 have hsr:Rd w3 5 (.slice (some X1) (l.length-i) (c-i)) (l.length-i) ((zF l).drop (i*5)):=by
  have:=hbg.rd5 (lo:=i) (m:=l.length-i) (c:=c) (by omega) (by omega) h2
  rw [show (cs.drop (i*5)).take ((l.length-i)*5)=(zF l).drop (i*5) by rw [←h4,List.drop_take];congr 1;omega,hX1] at this;exact this
 have hsr':Rd w3.drew 5 (.slice (some X1) (l.length-i) (c-i)) (l.length-i) ((zF l).drop (i*5)):=hsr;have hhl:∀v∈(zF l).drop (i*5),v.oneCell'=true:=fun v hv=>hl v (List.mem_of_mem_drop hv)
 have hlen3:(splice (List.take (i*5) (zF l)++zs) (i*5) y.cells).length=cap*5:=by
  have h5:y.cells.length=5:=rfl;rw [length_splice _ _ _ (by rw [h5,List.length_append,List.length_take];omega),List.length_append,List.length_take];omega
 have s4:∀W,(Instr.slice 32 (.slice (some ⟨G,0,none⟩) (l.length+1) cap) (some (.int .i64 ((i:Int)+1))) none none).run Tryz.prog W= .ok (.slice (some X4) (l.length-i) (cap-(i+1))) W:=fun W=>by
  have:=zCJ G (l.length+1) cap (i+1) (by omega) W
  rw [hX4,show l.length+1-(i+1)=l.length-i by omega] at this;exact this
 go_region_law
  (first
   |(refine pN (by rfl) (.tmp 50) (.tmp 53) (by rfl) G _ _ hb3.drew (some X4) (l.length-i) (cap-(i+1)) ((i+1)*5) (by simp [Act.eval,Act.put]) hd4 (by rw [hlen3];omega) (.slice (some X1) (l.length-i) (c-i)) (l.length-i) _ (by simp [Act.eval,Act.put]) hsr' (fun u hu=>hhl u (List.mem_of_mem_take hu)) ?_;intro w4 hb4 hg4)
   |fail)
 all_goals
  rw [Nat.min_self,show List.take ((l.length-i)*5) ((zF l).drop (i*5))=(zF l).drop (i*5) from List.take_of_length_le (by rw [List.length_drop];omega)] at hb4;go_wp2_with fail;go_ret
  have hlen:(l.take i++y::l.drop i).length=l.length+1:=by simp only [List.length_append,List.length_cons,List.length_take,List.length_drop];omega
  refine ⟨.slice (some ⟨G,0,none⟩) (l.length+1) cap,rfl,?_,?_,fun k hk=> ?_⟩
  ·rw [hlen,←tI];refine ⟨by simp only [List.length_append,List.length_take,List.length_drop,hfl];show _+(5+_)=_;omega,.inr ⟨G,cap,_,rfl,Nat.zero_le _,hb4,k1,k2,?_,?_⟩⟩
   ·rw [length_splice _ _ _ (by rw [hlen3,List.length_drop];omega),hlen3]
   ·exact eQ (cap:=cap) hfl (by omega) k3 k1 rfl
  ·have hz:=HZ.out;refine ⟨hg4.os.trans (hg3.os.trans (hw2.os.trans hA.os)),hg4.tape.trans (hg3.tape.trans (hw2.tape.trans hA.tape)),hg4.output.trans (hg3.output.trans (hw2.output.trans hA.output)),Nat.le_trans hA.size (Nat.le_trans hw2.size (Nat.le_trans hg3.size hg4.size)),fun k hk _=> ?_⟩;have q1:=hw2.size;have q2:w2.heap.size≤w3.drew.heap.size:=hg3.size;rw [hg4.block k (by omega) (by intro e;injection e with e;omega),show w3.drew.heap[k]? =w3.heap[k]? from rfl,hg3.block k (by omega) (by intro e;injection e with e;omega),hw2.block k (by omega),hA.block k hk]
  ·have hz:=HZ.out;have hk':G=k:=Option.some.inj hk
   right;omega
theorem aY {A:Option Addr} {c:Nat} (hu:Own w 0 43 5 (.slice A l.length c) l.length (zF l)) (hl:∀v∈zF l,v.oneCell'=true) (y:CV) (hy:∀v∈y.cells,v.oneCell'=true) (hn:(l.length+1)*72≤140737488355328) (i:Nat) (hi:i<l.length) (hc:l.length+1≤c):
 Calls Tryz.prog 209 #[.slice A l.length c,.int .i64 (i:Int),.slice (some ⟨w.heap.size,0,none⟩) 1 1] (w.alloc (.cells #[y.kv,.int .i64 y.c.kind,y.vv,.int .i64 y.c.page,.int .i64 y.c.count] 43))
  (wQ w (.slice A l.length c) (l.take i++y::l.drop i)):=by
 obtain ⟨g,rfl⟩:=hu.some5 (by omega);have hgw:=(Own.lt hu g rfl).2;have hyO:=OBlk.new' w 43 [y.kv,.int .i64 y.c.kind,y.vv,.int .i64 y.c.page,.int .i64 y.c.count];have hyb:=heap_alloc_new w (.cells #[y.kv,.int .i64 y.c.kind,y.vv,.int .i64 y.c.page,.int .i64 y.c.count] 43);have hA:Below w.heap.size w (w.alloc (.cells #[y.kv,.int .i64 y.c.kind,y.vv,.int .i64 y.c.page,.int .i64 y.c.count] 43)):=(Below.refl _ _).alloc (Nat.le_refl _) _;have hu2:=hu.alloc (.cells #[y.kv,.int .i64 y.c.kind,y.vv,.int .i64 y.c.page,.int .i64 y.c.count] 43);have HZ:=Lib.hid (World.size_alloc w (.cells #[y.kv,.int .i64 y.c.kind,y.vv,.int .i64 y.c.page,.int .i64 y.c.count] 43));generalize w.alloc (.cells #[y.kv,.int .i64 y.c.kind,y.vv,.int .i64 y.c.page,.int .i64 y.c.count] 43)=w1 at*;obtain ⟨cs,hb,h1,h2,h3,h4,-⟩:=hu2.blk5;obtain ⟨G,hG⟩:∃G,w.heap.size=G:=⟨_,rfl⟩;rw [hG] at hyb hyO⊢;have hc3:c≤9223372036854775807:=h2;have hfl:=jL l
 have hov:∀lb cb,(callFunc 212 #[.slice (some ⟨G,0,none⟩) 1 1,.slice (some ⟨g,(i+1)*5,none⟩) lb cb]).run Tryz.prog w1= .ok (.value (.bool false)) w1:=fun lb cb=>by
  obtain ⟨fr,hb0,-⟩:=hb
  rw [run_callFunc_extern Tryz.func212 (by kernel_rfl) (by kernel_rfl) (by kernel_rfl) (e:=Extern.SlicesOverlaps.overlaps #[32,32] #[4]) (by kernel_rfl),
   Lib.run_overlaps_apart w1 32 4 43 Tryz.underlying32 5 jT ⟨G,0,none⟩ ⟨g,(i+1)*5,none⟩ 1 1 lb cb (show G≠g by omega) 43 43 5 cs.length (by simp [World.shape?,hyb]) (by simp [World.shape?,hb0]) (by omega) (by simp [World.frozen?,hyb]) (by simp [World.frozen?,hyb])]
  rfl
 have s2:=fun W=>zIQ g l.length c (l.length+1) hc W
 have s3:∀W,(Instr.slice 32 (.slice (some ⟨g,0,none⟩) (l.length+1) c) (some (.int .i64 ((i:Int)+1))) none none).run Tryz.prog W= .ok (.slice (some ⟨g,(i+1)*5,none⟩) (l.length-i) (c-(i+1))) W:=fun W=>by
  have:=zCJ g (l.length+1) c (i+1) (by omega) W
  rw [cI (by omega),show l.length+1-(i+1)=l.length-i by omega] at this;exact this
 have s4:∀W,(Instr.slice 32 (.slice (some ⟨g,0,none⟩) (l.length+1) c) (some (.int .i64 (i:Int))) none none).run Tryz.prog W= .ok (.slice (some ⟨g,i*5,none⟩) (l.length+1-i) (c-i)) W:=fun W=>by
  have:=zCJ g (l.length+1) c i (by omega) W
  rw [cI (by omega)] at this;exact this
 have s1:∀W,(Instr.slice 32 (.slice (some ⟨g,0,none⟩) l.length c) (some (.int .i64 (i:Int))) none none).run Tryz.prog W= .ok (.slice (some ⟨g,i*5,none⟩) (l.length-i) (c-i)) W:=fun W=>by
  have:=zCJ g l.length c i (by omega) W
  rw [cI (by omega)] at this;exact this
 have hsr:Rd w1.drew 5 (.slice (some ⟨g,i*5,none⟩) (l.length+1-i) (c-i)) (l.length+1-i) ((cs.drop (i*5)).take ((l.length+1-i)*5)):=by
  have:=hb.rd5 (lo:=i) (m:=l.length+1-i) (c:=c) (by omega) (by omega) h2
  rw [cI (by omega)] at this;exact this
 have e9:((cs.drop (i*5)).take ((l.length+1-i)*5)).take (min (l.length+1-i) (l.length-i)*5)=(cs.drop (i*5)).take ((l.length-i)*5):=by
  rw [List.take_take,Nat.min_eq_left (by omega)]
  congr 1;omega
 have e8:(cs.drop (i*5)).take ((l.length-i)*5)=(zF l).drop (i*5):=by rw [←h4,List.drop_take];congr 1;omega
 have i2:¬(i:Int)=(l.length:Int):=by omega
 have i3:¬(c:Int)<(l.length:Int)+1:=by omega
 have i4:IntKind.i64.wrap ((l.length:Int)+1)=(l.length:Int)+1:=by rw [IntKind.wrap_i64];omega
 have i5:IntKind.i64.wrap ((i:Int)+1)=(i:Int)+1:=by rw [IntKind.wrap_i64];omega
 go_enter Tryz.func209,Tryz.ntmps209;go_upto_region 15 with (simp only [hov]);clear hov
 go_region_law
  (first
   |(refine pN (by rfl) (.tmp 73) (.tmp 76) (by rfl) g _ cs hb.drew (some ⟨g,(i+1)*5,none⟩) (l.length-i) (c-(i+1)) ((i+1)*5) (by simp [Act.eval,Act.put]) (fun _=>by rfl) (by omega) (.slice (some ⟨g,i*5,none⟩) (l.length+1-i) (c-i)) (l.length+1-i) _ (by simp [Act.eval,Act.put]) hsr (by rw [e9,e8];exact fun u hu=>hl u (List.mem_of_mem_drop hu)) ?_;rw [e9];intro w2 hb2 hg2)
   |fail)
 all_goals
  have hl2:(splice cs ((i+1)*5) ((cs.drop (i*5)).take ((l.length-i)*5))).length=c*5:=by
   rw [length_splice _ _ _ (by rw [List.length_take,List.length_drop];omega)];exact h3
  have hsrc2:Rd w2 5 (.slice (some ⟨G,0,none⟩) 1 1) 1 [y.kv,.int .i64 y.c.kind,y.vv,.int .i64 y.c.page,.int .i64 y.c.count]:=by
   have:=(hyO.drew.grown hg2 (fun e=>absurd (Option.some.inj e) (by omega))).rd5 (lo:=0) (m:=1) (c:=1) (by omega) (by simp) (by simp [maxLen])
   rw [aD,Nat.sub_zero] at this;exact this
  go_wp2_with (first
   |((with_reducible refine dM ?_);refine wR rfl (.tmp 80) (.tmp 81) rfl g _ _ hb2 (some ⟨g,i*5,none⟩) (l.length+1-i) (c-i) (i*5) rfl (fun _=>rfl) (by rw [hl2];omega) (.slice (some ⟨G,0,none⟩) 1 1) 1 _ rfl hsrc2 (fun u hu=>hy u (List.mem_of_mem_take hu)) ?_;intro w3 hb3 hg3)
   |fail)
  go_ret;have hz1:w1.heap.size=w.heap.size+1:=HZ.out
  have hlen:(l.take i++y::l.drop i).length=l.length+1:=by simp only [List.length_append,List.length_cons,List.length_take,List.length_drop];omega
  rw [show min 1 (l.length+1-i)=1 by omega,show List.take (1*5) [y.kv,Value.int IntKind.i64 y.c.kind,y.vv,Value.int IntKind.i64 y.c.page,Value.int IntKind.i64 y.c.count]=y.cells from rfl] at hb3;refine ⟨.slice (some ⟨g,0,none⟩) (l.length+1) c,rfl,?_,?_,fun k hk=> .inl hk⟩
  ·rw [hlen,←tI];refine ⟨by simp only [List.length_append,List.length_take,List.length_drop,hfl];show _+(5+_)=_;omega,.inr ⟨g,c,_,rfl,Nat.zero_le _,hb3,hc,h2,?_,?_⟩⟩
   ·rw [length_splice _ _ _ (by rw [hl2];show _+5≤_;omega),hl2]
   ·exact zCM h4 (by omega) (by omega) rfl
  ·refine ⟨hg3.os.trans (hg2.os.trans hA.os),hg3.tape.trans (hg2.tape.trans hA.tape),hg3.output.trans (hg2.output.trans hA.output),Nat.le_trans hA.size (Nat.le_trans hg2.size hg3.size),fun k hk hne=> ?_⟩;have q1:w1.heap.size≤w2.heap.size:=hg2.size;have hkg:¬some k=some g:=fun e=>hne (by injection e with e;rw [e];rfl);rw [hg3.block k (by omega) hkg,hg2.block k (show k<w1.heap.size by omega) hkg];exact hA.block k hk
theorem pK (hu:Own w 0 43 5 u l.length (zF l)) (hl:∀v∈zF l,v.oneCell'=true) (y:CV) (hy:∀v∈y.cells,v.oneCell'=true) (hn:(l.length+1)*72≤140737488355328) (i:Nat) (hi:i≤l.length):
 Calls Tryz.prog 209 #[u,.int .i64 (i:Int),.slice (some ⟨w.heap.size,0,none⟩) 1 1] (w.alloc (.cells #[y.kv,.int .i64 y.c.kind,y.vv,.int .i64 y.c.page,.int .i64 y.c.count] 43))
  (wQ w u (l.take i++y::l.drop i)):=by
 by_cases h:i=l.length
 ·subst h;rw [List.take_length,List.drop_length];exact eW hu y hy hn
 ·obtain ⟨A,c,rfl⟩:=Own.slice hu
  by_cases hc:c<l.length+1
  ·exact aL hu hl y hy hn i (by omega) hc
  ·exact aY hu hl y hy hn i (by omega) (by omega)
theorem pF (hu:Own w 0 43 5 u l.length (zF l)) (hl:∀v∈zF l,v.oneCell'=true) (hn:l.length*72≤140737488355328) (i:Nat) (hi:i<l.length):
 Calls Tryz.prog 210 #[u,.int .i64 (i:Int),.int .i64 ((i:Int)+1)] w (wQ w u (l.take i++l.drop (i+1))):=by
 obtain ⟨A,c,rfl⟩:=Own.slice hu;obtain ⟨g,rfl⟩:=hu.some5 (by omega);obtain ⟨cs,hb,h1,h2,h3,h4,-⟩:=hu.blk5;have hc3:c≤9223372036854775807:=h2;have hfl:=jL l;obtain ⟨i0,hi0,hz0,hz1,hz2⟩:=info_parts vP;obtain ⟨X1,hX1⟩:∃X,slA g l.length i=X:=⟨_,rfl⟩;obtain ⟨X2,hX2⟩:∃X,slA g c (i+1)=X:=⟨_,rfl⟩
 have s1:∀W,(Instr.slice 32 (.slice (some ⟨g,0,none⟩) l.length c) (some (.int .i64 (i:Int))) (some (.int .i64 ((i:Int)+1))) (some (.int .i64 (l.length:Int)))).run Tryz.prog W= .ok (.slice (some X1) 1 (l.length-i)) W:=fun W=>by
  have:=zIV g l.length c i (i+1) l.length (by omega) (by omega) h1 W
  rw [hX1,show i+1-i=1 by omega] at this;exact this
 have s2:∀W,(Instr.slice 32 (.slice (some ⟨g,0,none⟩) l.length c) none (some (.int .i64 (i:Int))) none).run Tryz.prog W= .ok (.slice (some ⟨g,0,none⟩) i c) W:=fun W=>zIQ g l.length c i (by omega) W
 have s3:∀W,(Instr.slice 32 (.slice (some ⟨g,0,none⟩) l.length c) (some (.int .i64 ((i:Int)+1))) none none).run Tryz.prog W= .ok (.slice (some X2) (l.length-(i+1)) (c-(i+1))) W:=fun W=>by
  have:=zCJ g l.length c (i+1) (by omega) W
  rw [hX2] at this;exact this
 have s4:∀W,(Instr.slice 32 (.slice (some ⟨g,0,none⟩) (l.length-1) c) (some (.int .i64 ((l.length-1:Nat):Int))) (some (.int .i64 (l.length:Int))) none).run Tryz.prog W= .ok (.slice (some ⟨g,(l.length-1)*5,none⟩) 1 (c-(l.length-1))) W:=fun W=>by
  have:=zKE g (l.length-1) c (l.length-1) l.length (by omega) h1 W
  rw [cI (by omega),show l.length-(l.length-1)=1 by omega] at this;exact this
 have hsr:Rd w.drew 5 (.slice (some X2) (l.length-(i+1)) (c-(i+1))) (l.length-(i+1)) ((cs.drop ((i+1)*5)).take ((l.length-(i+1))*5)):=by
  have:=hb.rd5 (lo:=i+1) (m:=l.length-(i+1)) (c:=c) (by omega) (by omega) h2
  rw [hX2] at this;exact this
 have e8:(cs.drop ((i+1)*5)).take ((l.length-(i+1))*5)=(zF l).drop ((i+1)*5):=by rw [←h4,List.drop_take];congr 1;omega
 have HE8:=Lib.hid e8;rw [e8] at hsr;clear e8
 have hln:((zF l).drop ((i+1)*5)).length=(l.length-(i+1))*5:=by rw [List.length_drop];omega
 have h1c:∀v∈(zF l).drop ((i+1)*5),v.oneCell'=true:=fun v hv=>hl v (List.mem_of_mem_drop hv)
 have hcl:∀j u,((zF l).drop ((i+1)*5))[j]? =some u→w.drew.cell? (X2.add j)=some u:=fun j u hj=>by
  obtain ⟨_,A',c',hv,_,_,h⟩:=hsr;obtain ⟨ad,ha,h⟩:=h j u hj;injection hv with hv;rw [ha] at hv;injection hv with hv;rw [hv];exact h
 have i1:¬(i:Int)=(i:Int)+1:=by omega
 have i2:i+(l.length-(i+1))=l.length-1:=by omega
 go_enter Tryz.func210,Tryz.ntmps210;go_upto_region 5 with (fail)
 go_region_law
  (first
   |(refine step_append_room rfl (.tmp 22) (.tmp 25) 32 rfl 43 i0 5 Tryz.underlying32 hi0 hz1 g 0 i c (by simp [Act.eval,Act.put]) X2 (l.length-(i+1)) (c-(i+1)) _ (by simp [Act.eval,Act.put]) hln hcl h1c (by omega) (fun j hj=>⟨by rw [hb.drew.cell];simp;omega,hb.drew.frozen (by omega)⟩) ?_;rw [i2,Nat.zero_add])
   |fail)
 all_goals
  have hb2:=OBlk.setCells ((zF l).drop ((i+1)*5)) (i*5) w.drew cs hb.drew (by omega);have hg2:=yX ((zF l).drop ((i+1)*5)) (i*5) w.drew g;generalize w.drew.setCells g (i*5) ((zF l).drop ((i+1)*5))=w2 at*
  have hl2:(splice cs (i*5) ((zF l).drop ((i+1)*5))).length=c*5:=by rw [length_splice _ _ _ (by omega)];exact h3
  go_wp2_with (first
   |((with_reducible refine zD6 ?_);refine uS rfl (.tmp 31) rfl g ((l.length-1)*5) _ rfl _ _ hb2 (by rw [hl2];omega) ?_;intro w3 hb3 hg3)
   |fail)
  go_ret
  have hlen:(l.take i++l.drop (i+1)).length=l.length-1:=by simp only [List.length_append,List.length_take,List.length_drop];omega
  refine ⟨.slice (some ⟨g,0,none⟩) (l.length-1) c,rfl,?_,?_,fun k hk=> .inl hk⟩
  ·rw [hlen,←zC1];refine ⟨by simp only [List.length_append,List.length_take,List.length_drop,hfl];omega,.inr ⟨g,c,_,rfl,Nat.zero_le _,hb3,by omega,h2,?_,?_⟩⟩
   ·rw [length_splice _ _ _ (by rw [hl2];simp;omega),hl2]
   ·have:=zDD (z:= [.slice none 0 0,.int .i64 0,.slice none 0 0,.int .i64 0,.int .i64 0]) h4 hi (by omega) rfl
    rw [HE8.out] at this;exact this
  ·refine ⟨hg3.os.trans hg2.os,hg3.tape.trans hg2.tape,hg3.output.trans hg2.output,Nat.le_trans hg2.size hg3.size,fun k hk hne=> ?_⟩;have q1:w.heap.size≤w2.heap.size:=hg2.size;have hkg:¬some k=some g:=fun e=>hne (by injection e with e;rw [e];rfl);rw [hg3.block k (by omega) hkg,hg2.block k hk hkg];rfl
end
end Go.Proofs.YtfcnkpofcekmgaaGreat
