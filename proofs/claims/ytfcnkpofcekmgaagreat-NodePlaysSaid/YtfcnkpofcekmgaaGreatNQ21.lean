/- Texts joined. -/
import Derived.Test.YtfcnkpofcekmgaaGreatNQ20
set_option maxRecDepth 100000
set_option maxHeartbeats 64000000
namespace Go.Proofs.YtfcnkpofcekmgaaGreat
open Go.RowKit
theorem sY (v:Value) (n m:Nat) (w:World) (hv:RdB w v (mkL n m)) (hn:n≤1000000000000):Calls Tryz.prog 106 #[v,.int .i64 (n:Int)] w fun e w'=>e= .returned (.bool true)∧w=w':=by
 have hm:=hv.le;obtain ⟨A,c,rfl,hc⟩:=hv.form;rw [jX] at hc hv hm⊢;go_enter Tryz.func106,Tryz.ntmps106;go_wp2_with fail
 go_loopw [5] (fun i wr=>∃q:Nat,q≤m∧i= .int .i64 (q:Int)∧w=wr) (fun i _=>m-(intOf i).toNat)
 case atStart=>exact ⟨0,Nat.zero_le _,rfl,rfl⟩
 case round=>
  obtain ⟨q,hq,rfl,rfl⟩:=hrel
  by_cases hlt:q<m
  ·obtain ⟨ad,rfl,hcell⟩:=hv.at_ (j:=q) (by rw [jX];exact hlt);rw [zG1,←iE] at hcell
   have i1:(q:Int)<(m:Int):=by omega
   go_wp2_with fail;exact ⟨⟨q+1,by omega,by go_num,trivial⟩,by simp [intOf];omega⟩
  ·obtain rfl:q=m:=by omega
   go_wp2_with fail;go_ret;exact ⟨rfl,rfl⟩
theorem Own.ne_Tb {w:World} {b n size:Nat} {v:Value} {xs:List Value} {T T':TypeId} {g:Nat} {cs:List Value} (h:Own w b T size v n xs) (hg:OBlk w g T' cs) (hT:T≠T'):some g≠v.ownBlock:=by
 rcases h.2 with ⟨rfl,_⟩|⟨g',cap,cs',rfl,_,hg',_⟩
 ·simp [Value.ownBlock]
 ·intro e;simp [Value.ownBlock] at e;subst e;exact (hg'.ne hg hT) rfl
structure BookAt (w:World) (b0:Nat) (bb:Nat) (v:Value) (vs:List Value) (f:Nat→List UInt8) (T:TypeId:=37) (rest:List Value:= []):Prop where
 blk:OBlk w bb T (v::rest)
 own:Own w b0 41 1 v vs.length vs
 each:OwLs w 0 vs f
 apart:ApartL vs
def InL (vs:List Value) (b:Nat):Prop:=∃(j:Nat) (u:Value),vs[j]? =some u∧u.ownBlock=some b
theorem BookAt.below {w w':World} {b0 bb:Nat} {v:Value} {vs:List Value} {f:Nat→List UInt8} {T:TypeId} {rest:List Value} (h:BookAt w b0 bb v vs f T rest) (hb:Below w.heap.size w w'):BookAt w' b0 bb v vs f T rest:=
 ⟨h.blk.below hb h.blk.lt,Own.below' h.own hb (Nat.le_refl _),h.each.below' hb (Nat.le_refl _),h.apart⟩
theorem zEP {T:TypeId} {rest:List Value} (hT1:5≠T) (hT2:41≠T) (w:World) (b0 bb:Nat) (v:Value) (vs:List Value) (f:Nat→List UInt8) (u:Value) (l:List UInt8) (h:BookAt w b0 bb v vs f T rest) (h0:b0≤w.heap.size) (hn:vs.length≤100000000) (hu:OwB w 0 u l) (ha:∀(j:Nat) (y:Value),vs[j]? =some y→∀g,u.ownBlock=some g→y.ownBlock≠some g):
 Calls Tryz.prog 99 #[.pointer (some ⟨bb,0,none⟩),u] w fun e w'=>(∃x,e= .returned x)∧∃v',BookAt w' b0 bb v' (vs++ [u]) (fun j=>if j=vs.length then l else f j) T rest∧Turn (fun b=>b=bb∨v.ownBlock=some b) w w'∧(∀g,v'.ownBlock=some g→v.ownBlock=some g∨w.heap.size≤g):=by
 obtain ⟨A,c,hv⟩:=Own.slice h.own;have c0:=h.blk.cell' (j:=0) rfl;have hone:=OwB.one hu;obtain ⟨A',c',hus⟩:=Own.slice hu;subst hv;subst hus;have HH:=Lib.hid h;have lb:=h.blk.lt;clear h;go_enter Tryz.func99,Tryz.ntmps99
 go_wp2_with (first
  |(at_builtin;refine kV rfl (.tmp 8) (.tmp 10) rfl b0 _ vs rfl HH.out.own _ hone _ rfl (by omega) h0 ?_;intro v' w' ho hg hk;obtain ⟨V,d,rfl⟩:=Own.slice ho;have hb':=HH.out.blk.grown hg (fun e=>HH.out.own.ne_Tb HH.out.blk hT2 e);have c0':=hb'.cell' (j:=0) (u:= .slice A vs.length c) rfl;have f0':=hb'.frozen (j:=0) (by simp))
  |fail)
 refine bodyPost_end (results_none rfl _ _ _) rfl ?_;have hg2:=zY w' ⟨bb,0,none⟩ (.slice V (vs.length+1) d);have hh:=HH.out
 have hbT:∀{x:Value} {m:List UInt8},OwB w 0 x m→OwB (w'.setCell ⟨bb,0,none⟩ (.slice V (vs.length+1) d)) 0 x m:=fun {x m} hx=>by
  have h1:OwB w' 0 x m:=Own.grown hx hg (fun g hg' e=>hx.ne_own hh.own e.symm (by rw [hg']));exact Own.grown h1 hg2 (fun g hg' e=>OwB.ne_blk h1 hb' hT1 (by rw [hg',e]))
 refine ⟨⟨_,rfl⟩,.slice V (vs.length+1) d,⟨hb'.set 0 _,?_,?_,?_⟩,?_,?_⟩
 ·rw [List.length_append];exact Own.grown ho hg2 (fun g hg' e=>ho.ne_Tb hb' hT2 (by rw [hg',e]))
 ·intro j y hj;rcases Nat.lt_or_ge j vs.length with hlt|hge
  ·rw [List.getElem?_append_left hlt] at hj
   show OwB _ 0 y (if j=vs.length then l else f j)
   rw [if_neg (show ¬j=vs.length by omega)];exact hbT (hh.each j y hj)
  ·rw [List.getElem?_append_right hge] at hj
   have hj0:j=vs.length:=by
    have:=(List.getElem?_eq_some_iff.mp hj).1
    simp at this;omega
   subst hj0;simp at hj;subst hj
   show OwB _ 0 _ (if vs.length=vs.length then l else f vs.length)
   rw [if_pos rfl];exact hbT hu
 ·intro i j y y' hij hi hj g hg' e
  have split:∀(i:Nat) (y:Value),(vs++ [Value.slice A' l.length c'])[i]? =some y→(i<vs.length∧vs[i]? =some y)∨(i=vs.length∧y= .slice A' l.length c'):=fun i y hi=>by
   rcases Nat.lt_or_ge i vs.length with hlt|hge
   ·rw [List.getElem?_append_left hlt] at hi;exact .inl ⟨hlt,hi⟩
   ·rw [List.getElem?_append_right hge] at hi
    have h0:i=vs.length:=by
     have:=(List.getElem?_eq_some_iff.mp hi).1
     simp at this;omega
    subst h0;simp at hi;exact .inr ⟨rfl,hi.symm⟩
  rcases split i y hi with ⟨h1,h2⟩|⟨h1,rfl⟩
  ·rcases split j y' hj with ⟨h3,h4⟩|⟨h3,rfl⟩
   ·exact hh.apart i j y y' hij h2 h4 g hg' e
   ·exact ha i y h2 g e.symm hg'
  ·rcases split j y' hj with ⟨h3,h4⟩|⟨h3,rfl⟩
   ·exact ha j y' h4 g hg' e.symm
   ·omega
 ·exact (Turn.of_grown hg (fun k e=> .inr e)).grown hg2 (fun b e=>by cases e;exact .inl (.inl rfl))
 ·intro g hg';rcases hk with e|e
  ·exact .inl (e▸hg')
  ·right
   have:=e.symm.trans hg'
   injection this with this;omega
theorem OBlk.grownL {T:TypeId} (hT1:5≠T) {w w':World} {bb:Nat} {cs:List Value} {u:Value} {l:List UInt8} {b:Nat} (h:OBlk w bb T cs) (hu:OwB w b u l) (hg:w.grownBy w' u.ownBlock):OBlk w' bb T cs:=
 h.grown hg (fun e=>OwB.ne_blk hu h hT1 e)
theorem tA {T:TypeId} {rest:List Value} (hT1:5≠T) (hT2:41≠T) (v:Value) (vs:List Value) (f:Nat→List UInt8) (b0 bb:Nat) (w:World) (h:BookAt w b0 bb v vs f T rest) (hn:vs.length≤8388608) (hsz:∀j,j<vs.length→(f j).length≤1000000000):
 Calls Tryz.prog 58 #[.pointer (some ⟨bb,0,none⟩)] w fun e w'=>e= .returned (.bool true)∧Turn (InL vs) w w'∧OwLs w' 0 vs (fun j=>mkL j (f j).length):=by
 obtain ⟨hblk,hv0,hl,ha⟩:=h;have hv:Own w 0 41 1 v vs.length vs:=Own.low hv0 (Nat.zero_le _);obtain ⟨A,cv,rfl⟩:=hv.slice;clear hv0;go_enter Tryz.func58,Tryz.ntmps58;go_wp2_with fail
 go_loopw [3] (fun i wr=>∃k:Nat,i= .int .i64 (k:Int)∧k≤vs.length∧Own wr 0 41 1 (.slice A vs.length cv) vs.length vs∧OwLs wr 0 vs (dS f k)∧OBlk wr bb T (.slice A vs.length cv::rest)∧Turn (InL vs) w wr)
  (fun i _=>vs.length-(intOf i).toNat)
 case atStart=>exact ⟨0,rfl,Nat.zero_le _,hv,fun j u hj=>by simpa [dS] using hl j u hj,hblk,Turn.refl _ _⟩
 case round=>
  clear hv hl hblk;obtain ⟨k,rfl,hk,hv,hl,hblk,hT⟩:=hrel;have c0:=hblk.cell' (j:=0) rfl
  by_cases hlt:k<vs.length
  ·obtain ⟨gL,rfl⟩:∃gL,A=some ⟨gL,0,none⟩:=by
    rcases hv.form with ⟨h,h0⟩|⟨g,c,h,_⟩
    ·omega
    ·injection h with h;exact ⟨g,h⟩
   have hku:vs[k]? =some vs[k]:=List.getElem?_eq_getElem hlt;have how:=hl k _ hku;have hcell:=hv.cells k _ hku
   have hlen:(dS f k k)=f k:=by simp [dS]
   rw [hlen] at how;obtain ⟨B,c,hform⟩:=how.slice;rw [hform] at hku hcell;have HU:=Lib.hid hku;have hm1:=hsz k hlt;clear hlen how hform hku;go_wp2_with fail;obtain ⟨wq,rfl⟩:∃wq,wq=wr:=⟨_,rfl⟩
   go_loopw [5] (fun i wi=>∃q:Nat,i= .int .i64 (q:Int)∧q≤(f k).length∧Own wi 0 41 1 (.slice (some ⟨gL,0,none⟩) vs.length cv) vs.length vs∧OwLs wi 0 vs (bE f k q)∧OBlk wi bb T (.slice (some ⟨gL,0,none⟩) vs.length cv::rest)∧Turn (InL vs) w wi)
    (fun i _=>(f k).length-(intOf i).toNat)
   case atStart=>exact ⟨0,rfl,Nat.zero_le _,hv,fun j u hj=>by rw [zHA];exact hl j u hj,hblk,hT⟩
   case round=>
    clear hv hl hblk hT hcell c0;obtain ⟨q,rfl,hq,hv,hl,hblk,hT⟩:=hrel
    by_cases hql:q<(f k).length
    ·have how:=hl k _ HU.out
     have hlen:(bE f k q k).length=(f k).length:=by simp [bE,jX];omega
     obtain ⟨g,rfl⟩:∃g,B=some ⟨g,0,none⟩:=by
      rcases how.form with ⟨_,h0⟩|⟨g,c,h,_⟩
      ·rw [h0] at hlen;simp at hlen;omega
      ·injection h with h;exact ⟨g,h⟩
     have hc2:=how.cell (j:=q) (by omega);have hf2:=how.frozen (j:=q) (by omega);have hgb:=how.lt g rfl;have hne:=how.ne_own hv rfl;have hnb:=fun x=>hblk.far (p:=⟨g,q,none⟩) (fun e=>OwB.ne_blk how hblk hT1 (by rw [e];rfl)) x;have HNB:=Lib.hid hnb;have HIN:Hid (InL vs g):=Lib.hid ⟨k,_,HU.out,rfl⟩;clear hnb;generalize ((bE f k q k)[q]'(by omega)).toNat=y at hc2;clear how hlen;go_wp2_with fail;go_roundw
     case rel=>
      refine ⟨q+1,by go_num,by omega,?_,?_,HNB.out _,hT.setCell _ _ (.inl HIN.out)⟩
      ·exact hv.far (p:=⟨g,q,none⟩) hne _
      ·rw [iE];exact hl.set ha HU.out q (mrk k q) (zCS f k q hql) (fun j hj=>zEF f k q j hj)
     case measure=>simp [intOf];omega
    ·obtain rfl:q=(f k).length:=by omega
     go_wp2_with fail;go_roundw
     case rel=>exact ⟨k+1,by go_num,by omega,hv,fun j u hj=>by rw [←zG0];exact hl j u hj,hblk,hT⟩
     case measure=>simp [intOf];omega
  ·obtain rfl:k=vs.length:=by omega
   have hl2:∀(j:Nat) (u:Value),vs[j]? =some u→OwB wr 0 u (mkL j (f j).length):=fun j u hj=>by
    have hjl:=(List.getElem?_eq_some_iff.mp hj).1
    have:=hl j u hj
    simpa [dS,hjl] using this
   clear hl;go_wp2_with fail;obtain ⟨w2,rfl⟩:∃w2,w2=wr:=⟨_,rfl⟩;have hw2:=hT.size
   go_loopw [6,7] (fun gr i wr=>∃(k:Nat) (es:List Value),i= .int .i64 (k:Int)∧k≤vs.length∧es.length=5*k∧Own wr w2.heap.size 41 1 gr es.length es∧
    (∀(j:Nat) (e:Value),es[j]? =some e→(∃m,EOk wr 0 (.slice none 0 0) 0 0 e m (j/5))∧∀(i:Nat) (u:Value),k≤i→vs[i]? =some u→∀g,e.ownBlock=some g→u.ownBlock≠some g)∧
    Own wr 0 41 1 (.slice A vs.length cv) vs.length vs∧(∀(j:Nat) (u:Value),vs[j]? =some u→OwB wr 0 u (mkL j (f j).length))∧(∀(j:Nat) (u:Value),vs[j]? =some u→∀g,u.ownBlock=some g→g<w2.heap.size)∧
    OBlk wr bb T (.slice A vs.length cv::rest)∧Turn (InL vs) w wr∧w2.heap.size≤wr.heap.size)
    (fun _ i _=>vs.length-(intOf i).toNat)
   case atStart=>exact ⟨0,[],rfl,Nat.zero_le _,rfl,Own.nil _ _ _ _,fun j e h=>by simp at h,hv,hl2,fun j u hj g hg=>((hl2 j u hj).lt g hg).2,hblk,hT,Nat.le_refl _⟩
   case round=>
    have hvlt:=fun g h=>(hv.lt g h).2;have HV:=Lib.hid hvlt;clear hvlt hv hl2 hT c0 hblk;obtain ⟨k,es,rfl,hk,hes,hgr,hE,hv,hl,hs,hblk,hT,hsz2⟩:=hrel;have c0:=hblk.cell' (j:=0) rfl
    by_cases hlt:k<vs.length
    ·obtain ⟨gL,rfl⟩:∃gL,A=some ⟨gL,0,none⟩:=by
      rcases hv.form with ⟨h,h0⟩|⟨g,c,h,_⟩
      ·omega
      ·injection h with h;exact ⟨g,h⟩
     have hku:vs[k]? =some vs[k]:=List.getElem?_eq_getElem hlt;have how:=hl k _ hku;have hcell:=hv.cells k _ hku;generalize vs[k]=u at*;have hm1:=hsz k hlt;have HU:=Lib.hid hku;have HES:=Lib.hid hes;obtain ⟨G,cG,rfl⟩:=hgr.slice;clear hku;rw [hes];clear hes;go_wp2_with fail;obtain ⟨wq,rfl⟩:∃wq,wq=wr:=⟨_,rfl⟩
     go_loopw [6,8,9] (fun gr x j wi=>∃(q:Nat) (es:List Value),j= .int .i64 (q:Int)∧q≤20∧InvQ (InL vs) w w2.heap.size 0 vs f (.slice (some ⟨gL,0,none⟩) vs.length cv) k q gr x es wi∧OBlk wi bb T (.slice (some ⟨gL,0,none⟩) vs.length cv::rest))
      (fun _ _ j _=>20-(intOf j).toNat)
     case atStart=>
      refine ⟨0,es,rfl,by omega,⟨HES.out,?_,how,?_,?_,?_,hv,fun j u _ hu=>hl j u hu,hs,hT,fun g hg=> .inl ⟨k,u,HU.out,hg⟩,hw2,hsz2⟩,hblk⟩
      ·rw [HES.out];rw [HES.out] at hgr;exact hgr
      ·exact fun j e hj=>⟨⟨(hE j e hj).1.choose,(hE j e hj).1.choose_spec.fresh (fun g hg=>(hE j e hj).2 k u (Nat.le_refl _) HU.out g hg)⟩,fun i u' hi hu'=>(hE j e hj).2 i u' (Nat.le_of_lt hi) hu'⟩
      ·intro u' hu';rw [HU.out] at hu';injection hu' with hu';subst hu';exact ⟨how,fun g _ _=>⟨Nat.le_refl _,rfl⟩⟩
      ·exact fun i u' hi hu' g hg hg'=>ha k i u u' (fun e=>hi e.symm) HU.out hu' g hg hg'.symm
     case round=>
      clear hgr hE hv hl hs hT hsz2 how hcell hblk c0;obtain ⟨q,es,rfl,hq,hI,hblk⟩:=hrel
      by_cases hql:q<20
      ·have hlen3:=hI.len
       have hc5:pC q≤5:=by unfold pC;split<;>split<;>omega
       have hel:es.length≤50000000:=by omega
       have hgr3:=hI.gr3;have hs2:=hI.size;have hox:=hI.ox;have HI:=Lib.hid hI;obtain ⟨n,hN⟩:∃n,n=(f k).length+q:=⟨_,rfl⟩;rw [←hN] at hox;have HN:=Lib.hid hN
       have hnb:n≤2000000000:=by omega
       have hmv:=iE k n;have HMV:=Lib.hid hmv;obtain ⟨X,cX,rfl⟩:=hox.slice' (n:=n) (jX _ _);clear hlen3 hN hmv hI
       have iq:(q:Int)<20:=by omega
       go_upto_region 18 with (first
        |(at_builtin;refine cZ rfl (.tmp 64) (.tmp 71) rfl 0 _ _ rfl hox (mrk k n) _ (congrArg (Value.int .u8) HMV.out) 5 rfl (by rw [jX];omega) (Nat.zero_le _) ?_;intro x3 w3 ho3 hg3 hb3 hk3;obtain ⟨B3,c3,rfl⟩:=ho3.slice' (n:=n+1) (by rw [List.length_append,jX];rfl))
        |fail)
       have hblk3:=hblk.grownL hT1 hox hg3;have ho1:=OwB.one ho3;have hgrn:=hgr3 _ hg3;clear hox hgr3
       cases hkq:aC q
       ·have hd:=of_decide_eq_false hkq
        have j1:¬(q:Int)<3:=by omega
        have j2:((q:Int)==8)=false:=beq_eq_false_iff_ne.2 (by omega);have j3:((q:Int)==19)=false:=beq_eq_false_iff_ne.2 (by omega);have HK:=Lib.hid hkq;clear hd hkq;go_wp2_with fail;have hN:=HN.out;subst hN;go_roundw
        case rel=>exact ⟨q+1,es,by go_num,by omega,HI.out.drop hql HK.out ho3 hg3 hb3 hk3,hblk3⟩
        case measure=>simp [intOf];omega
       ·have hd:=of_decide_eq_true hkq;have HK:=Lib.hid hkq;clear hkq;rcases hd with hd|hd|hd
        ·have j1:(q:Int)<3:=by omega
         clear hd
         go_wp2_with (first
          |(at_builtin;refine kV rfl (.tmp 83) (.tmp 85) rfl w2.heap.size _ es rfl hgrn _ ho1 41 rfl (by omega) (Nat.le_trans hs2 hg3.size) ?_;intro gr4 w4 hgr4 hg4 _)
          |fail)
         have hblk4:=hblk3.grown hg4 (fun e=>hgrn.ne_Tb hblk3 hT2 e);have hN:=HN.out;subst hN;go_roundw
         case rel=>exact ⟨q+1,_,by go_num,by omega,HI.out.step HK.out HV.out ho3 hg3 hb3 hk3 hgr4 hg4,hblk4⟩
         case measure=>simp [intOf];omega
        ·have j1:¬(q:Int)<3:=by omega
         have j2:((q:Int)==8)=true:=beq_iff_eq.2 (by omega);clear hd
         go_wp2_with (first
          |(at_builtin;refine kV rfl (.tmp 83) (.tmp 85) rfl w2.heap.size _ es rfl hgrn _ ho1 41 rfl (by omega) (Nat.le_trans hs2 hg3.size) ?_;intro gr4 w4 hgr4 hg4 _)
          |fail)
         have hblk4:=hblk3.grown hg4 (fun e=>hgrn.ne_Tb hblk3 hT2 e);have hN:=HN.out;subst hN;go_roundw
         case rel=>exact ⟨q+1,_,by go_num,by omega,HI.out.step HK.out HV.out ho3 hg3 hb3 hk3 hgr4 hg4,hblk4⟩
         case measure=>simp [intOf];omega
        ·have j1:¬(q:Int)<3:=by omega
         have j2:((q:Int)==8)=false:=beq_eq_false_iff_ne.2 (by omega);have j3:((q:Int)==19)=true:=beq_iff_eq.2 (by omega);clear hd
         go_wp2_with (first
          |(at_builtin;refine kV rfl (.tmp 83) (.tmp 85) rfl w2.heap.size _ es rfl hgrn _ ho1 41 rfl (by omega) (Nat.le_trans hs2 hg3.size) ?_;intro gr4 w4 hgr4 hg4 _)
          |fail)
         have hblk4:=hblk3.grown hg4 (fun e=>hgrn.ne_Tb hblk3 hT2 e);have hN:=HN.out;subst hN;go_roundw
         case rel=>exact ⟨q+1,_,by go_num,by omega,HI.out.step HK.out HV.out ho3 hg3 hb3 hk3 hgr4 hg4,hblk4⟩
         case measure=>simp [intOf];omega
      ·obtain rfl:q=20:=by omega
       have i1:¬((20:Nat):Int)<20:=by omega
       have hI':=hI;have HI:=Lib.hid hI';have hlen3:=hI.len;have hc20:pC 20=5:=rfl;rw [hc20] at hlen3;clear hI hI';go_wp2_with fail;go_roundw
       case rel=>
        have hI:=HI.out;refine ⟨k+1,es,by go_num,by omega,by omega,hI.own,fun j e hj=>⟨⟨(hI.hE j e hj).1.choose,(hI.hE j e hj).1.choose_spec.fresh (fun g _ h=>by cases h)⟩,fun i u' hi hu'=>(hI.hE j e hj).2 i u' (by omega) hu'⟩,hI.hv,fun j u' hu'=> ?_,hI.hs,hblk,hI.ht,hI.size⟩
        by_cases e:j=k
        ·subst e;exact (hI.hk u' hu').1
        ·exact hI.hl j u' e hu'
       case measure=>simp [intOf];omega
    ·obtain rfl:k=vs.length:=by omega
     have hE2:∀(j:Nat) (e:Value),es[j]? =some e→∃m,OwB wr 0 e (mkL (j/5) m):=fun j e hj=>by
      obtain ⟨⟨m,h1⟩,_⟩:=hE j e hj;exact ⟨m,h1.1⟩
     clear hE;obtain ⟨G,cG,rfl⟩:=hgr.slice
     have hsm:es.length≤50000000:=by omega
     have HE:=Lib.hid hE2;have HL:=Lib.hid hl;clear hE2 hes hl;go_wp2_with fail;obtain ⟨w5,rfl⟩:∃w5,w5=wr:=⟨_,rfl⟩
     go_loopw [10] (fun i wr=>∃j:Nat,i= .int .i64 (j:Int)∧j≤vs.length∧wr=w5)
      (fun i _=>vs.length-(intOf i).toNat)
     case atStart=>exact ⟨0,rfl,Nat.zero_le _,rfl⟩
     case round=>
      obtain ⟨j,rfl,hj,rfl⟩:=hrel
      by_cases hjl:j<vs.length
      ·have hju:vs[j]? =some vs[j]:=List.getElem?_eq_getElem hjl;have how:=HL.out j _ hju;have hsj:=hsz j hjl
       obtain ⟨gL,rfl⟩:∃gL,A=some ⟨gL,0,none⟩:=by
        rcases hv.form with ⟨h,h0⟩|⟨g,c,h,_⟩
        ·omega
        ·injection h with h;exact ⟨g,h⟩
       have hcell:=hv.cells j _ hju;have hmk:=sY _ j (f j).length wr how.rd (by omega);generalize vs[j]=e at*;clear hju how;go_wp2_with fail;refine hmk.mono ?_;rintro e2 w6 ⟨rfl,rfl⟩;go_wp2_with fail;exact ⟨⟨j+1,by go_num,by omega,trivial⟩,by simp [intOf];omega⟩
      ·obtain rfl:j=vs.length:=by omega
       go_wp2_with fail;obtain ⟨w5,rfl⟩:∃w5,w5=wr:=⟨_,rfl⟩
       go_loopw [12] (fun i wr=>∃j:Nat,i= .int .i64 (j:Int)∧j≤es.length∧wr=w5)
        (fun i _=>es.length-(intOf i).toNat)
       case atStart=>exact ⟨0,rfl,Nat.zero_le _,rfl⟩
       case round=>
        obtain ⟨j,rfl,hj,rfl⟩:=hrel
        by_cases hjl:j<es.length
        ·have hju:es[j]? =some es[j]:=List.getElem?_eq_getElem hjl;obtain ⟨m,how⟩:=HE.out j _ hju
         obtain ⟨gG,rfl⟩:∃gG,G=some ⟨gG,0,none⟩:=by
          rcases hgr.form with ⟨h,h0⟩|⟨g,c,h,_⟩
          ·omega
          ·injection h with h;exact ⟨g,h⟩
         have hcell:=hgr.cells j _ hju;have hmk:=sY _ (j/5) m wr how.rd (by omega);rw [show ((j/5:Nat):Int)=(j:Int)/5 by omega] at hmk;generalize es[j]=e at*;clear hju how;go_wp2_with fail;refine hmk.mono ?_;rintro e2 w6 ⟨rfl,rfl⟩;go_wp2_with fail;exact ⟨⟨j+1,by go_num,by omega,trivial⟩,by simp [intOf];omega⟩
        ·obtain rfl:j=es.length:=by omega
         go_wp2_with fail;go_ret;exact ⟨rfl,hT,fun j u hj=>HL.out j u hj⟩
theorem pJ (kind:Int) (v:Value) (l:List CV) (pre:Nat) (w:World) (hl:RdCs w v l) (hf:xT (pcs l)≤2305843009213693952) (hcb:∀x∈l,x.c.key.length+x.c.val.length≤100000000000000) (hpr:pre≤100000000000000) (hp:∀(i:Nat) (hi:i<(pcs l).length),¬(kind=3∧i=0)→pre≤(pcs l)[i].key.length):
 Calls Tryz.prog 155 #[.int .i64 kind,v,.int .i64 (pre:Int)] w fun e w'=>e= .returned (.int .i64 (z5 kind (pcs l) pre:Nat))∧Below w.heap.size w w':=by
 obtain ⟨A,c,rfl,hm,hc⟩:=hl.slice;have HP:=Lib.hid hp;have HF:=Lib.hid hf;have HCB:=Lib.hid hcb;clear hp hcb;go_enter Tryz.func155,Tryz.ntmps155;go_wp2_with fail
 go_loopw [7,8,9] (fun n i _ wr=>∃k:Nat,k≤l.length∧i= .int .i64 (k:Int)∧n= .int .i64 (z5 kind ((pcs l).take k) pre:Nat)∧Below w.heap.size w wr) (fun _ i _ _=>l.length-(intOf i).toNat)
 case atStart=>exact ⟨0,Nat.zero_le _,rfl,by simp [z5,zN],Below.refl _ _⟩
 case round=>
  obtain ⟨k,hk,rfl,rfl,hB⟩:=hrel
  by_cases hlt:k<l.length
  ·have ik:(k:Int)<(l.length:Int):=by omega
   have hS:=rZ kind pre (pcs l) (k:=k) (by rw [zA];exact hlt);have hS1:=bM kind pre (pcs l) (k+1) (by have:=HF.out;omega);rw [zV hlt] at hS
   have hmem:l[k].c∈pcs l:=by rw [←zV hlt];exact List.getElem_mem _
   have hkv:l[k].c.key.length+l[k].c.val.length≤100000000000000:=HCB.out _ (List.getElem_mem hlt)
   have hpk:¬(kind=3∧k=0)→pre≤l[k].c.key.length:=fun h=>by rw [←zV hlt];exact HP.out k (by rw [zA];exact hlt) h
   obtain ⟨ad,rfl,c0,c1,c2,c3,c4⟩:=(hl.below hB).at_ hlt;have hx:=(hl.below hB).ok _ (List.getElem_mem hlt);generalize l[k]=x at*;obtain ⟨A1,a1,B1,b1,key,ck,val,pg,ct,rfl,_,_⟩:=CV.form hx;have hlo:=bF kind k ⟨.slice A1 key.length a1,.slice B1 val.length b1,⟨key,ck,val,pg,ct⟩⟩ pre wr hx hpk hkv;unfold zJ at hlo;have hS':z5 kind ((pcs l).take (k+1)) pre=z5 kind ((pcs l).take k) pre+(2+(pcF kind k ⟨key,ck,val,pg,ct⟩ pre).length):=hS;have HS:=Lib.hid hS'
   have hS2:z5 kind ((pcs l).take k) pre+(2+(pcF kind k ⟨key,ck,val,pg,ct⟩ pre).length)≤9223372036854775000:=by have:=HF.out;omega
   simp only at hlo;generalize z5 kind ((pcs l).take k) pre=s at*;generalize pcF kind k ⟨key,ck,val,pg,ct⟩ pre=lo at*;clear hS hS' hS1 hmem hx hkv hpk;go_upto_region 6 with (first|(go_at_call 125;refine hlo.mono ?_;rintro e w2 ⟨v2,rfl,ho2,hb2⟩)|fail);have hB2:=hB.trans (hb2.mono hB.size);obtain ⟨A2,a2,rfl⟩:=Own.slice ho2;clear ho2 hlo;go_wp2_with fail;go_roundw
   case rel=>exact ⟨k+1,by omega,by go_num,by rw [HS.out];go_num,hB2⟩
   case measure=>simp [intOf];omega
  ·obtain rfl:k=l.length:=by omega
   have e:(pcs l).take l.length=pcs l:=List.take_of_length_le (by rw [zA];omega);rw [e];go_wp2_with fail;go_ret;exact ⟨rfl,hB⟩
theorem pL (kind:Int) (l:List PC):xL kind (l.take 0)= []:=by unfold xL;simp
theorem eR (l:List PC):xL 3 (l.take 1)= []:=by
 unfold xL;rw [if_pos rfl]
 cases l<;>simp
theorem eT {kind:Int} {l:List PC} {k:Nat} (hk:k<l.length) (hn:¬(kind=3∧k=0)):xL kind (l.take (k+1))=xL kind (l.take k)++ [l[k].key]:=by
 unfold xL;rw [List.take_succ_eq_append_getElem hk]
 by_cases h3:kind=3
 ·rw [if_pos h3,if_pos h3,List.drop_append_of_le_length (by rw [List.length_take];omega),List.map_append];rfl
 ·rw [if_neg h3,if_neg h3,List.map_append];rfl
theorem zB5 {kind:Int} {l:List PC} {i:Nat} (hi:i<l.length) (hn:¬(kind=3∧i=0)):l[i].key∈xL kind l:=by
 unfold xL;refine List.mem_map_of_mem ?_
 by_cases hk:kind=3
 ·rw [if_pos hk]
  have:l[i]=(l.drop 1)[i-1]'(by simp;omega):=by simp only [List.getElem_drop];congr 1;omega
  rw [this];exact List.getElem_mem _
 ·rw [if_neg hk];exact List.getElem_mem _
theorem p5 (kind:Int) (l:List PC):(xL kind l).length≤l.length:=by
 unfold xL
 split<;>simp
theorem uE {kind:Int} {l:List PC} (h:0<zD kind l):∃hk:0<(xL kind l).length,zD kind l≤(xL kind l)[0].length∧xE kind l=(xL kind l)[0].take (zD kind l):=by
 obtain ⟨i,hi,hn⟩:=jN h;have hm:=zB5 hi hn;have hk:0<(xL kind l).length:=List.length_pos_of_mem hm;refine ⟨hk,?_⟩;have h1:=cS (List.getElem_mem hk) hm;obtain ⟨h2,h3,h4⟩:=xS hi hn;refine ⟨h1.1,?_⟩
 have e:xE kind l=l[i].key.take (zD kind l):=by
  conv=>rhs;rw [h3]
  rw [List.take_left' h4]
 rw [e];exact h1.2.symm
theorem u7 {kind:Int} {l:List PC} (h:zD kind l=0):xE kind l= []:=List.eq_nil_of_length_eq_zero (by rw [yQ];exact h)
def KeysIn (w:World) (vs:List Value) (ks:List (List UInt8)):Prop:=vs.length=ks.length∧∀j (h:j<ks.length),∃u,vs[j]? =some u∧RdB w u ks[j]
theorem KeysIn.snoc {w:World} {vs:List Value} {ks:List (List UInt8)} {u:Value} {k:List UInt8} (h:KeysIn w vs ks) (hu:RdB w u k):KeysIn w (vs++ [u]) (ks++ [k]):=by
 refine ⟨by simp [h.1],fun j hj=> ?_⟩;rcases Nat.lt_or_ge j ks.length with h1|h1
 ·obtain ⟨x,hx,hr⟩:=h.2 j h1;exact ⟨x,by rw [List.getElem?_append_left (by rw [h.1];exact h1)];exact hx,by rw [List.getElem_append_left h1];exact hr⟩
 ·have hj':j=ks.length:=by simp at hj;omega
  subst hj';exact ⟨u,by rw [List.getElem?_append_right (by rw [h.1];exact Nat.le_refl _),h.1];simp,by simpa using hu⟩
theorem KeysIn.rdL {w w':World} {L:List Ent} {v:Value} {vs:List Value} {ks:List (List UInt8)} {w0:World} (h:KeysIn w vs ks) (hS:Sep w0 w' (zP 41 1 v vs.length vs::L)) (hm:yK w∈L):RdL w' v ks:=
 ⟨vs,Own.rd hS.head,h.1,fun i hi=>by
  obtain ⟨u,hu,hr⟩:=h.2 i hi
  exact ⟨u,hu,hS.tail.rd hm hr⟩⟩
theorem Sep.appendedL {w0 w w':World} {v v':Value} {vs:List Value} {u:Value} {L:List Ent} (h:Sep w0 w (zP 41 1 v vs.length vs::L)) (ho:Own w' 0 41 1 v' (vs.length+1) (vs++ [u])) (hg:w.grownBy w' v.ownBlock) (hk:v'.ownBlock=v.ownBlock∨v'.ownBlock=some (w.heap.size+1)):
 Sep w0 w' (zP 41 1 v' (vs++ [u]).length (vs++ [u])::L):=
 h.upd (Turn.of_grown hg (fun _ e=>e)) (by show Own _ _ _ _ _ _ _;rw [List.length_append];exact ho) (fun g hg'=>⟨by
  rcases hk with e|e
  ·exact .inl (e.symm.trans hg':v.ownBlock=some g)
  ·right
   have:=e.symm.trans hg'
   injection this with this
   omega,(Own.lt ho g hg').2⟩)
theorem bV (kind:Int) (v:Value) (l:List CV) (w:World) (hl:RdCs w v l) (hn:l.length≤2000000000000) (hb:∀x∈l,x.c.key.length≤100000000000000):
 Calls Tryz.prog 123 #[.int .i64 kind,v] w (fN w (xE kind (pcs l))):=by
 obtain ⟨A,c,rfl,hm,hc⟩:=hl.slice;have HB:=Lib.hid hb;clear hb;go_enter Tryz.func123,Tryz.ntmps123;go_wp2_with fail
 go_loopw [5,6] (fun kv i wr=>∃(k:Nat) (vs:List Value),k≤l.length∧i= .int .i64 (k:Int)∧KeysIn w vs (xL kind ((pcs l).take k))∧Sep w wr [zP 41 1 kv vs.length vs,yK w]) (fun _ i _=>l.length-(intOf i).toNat)
 case atStart=>
  refine ⟨0,[],Nat.zero_le _,rfl,?_,?_⟩
  ·rw [pL];exact ⟨rfl,fun j h=>absurd h (by simp)⟩
  ·exact (Sep.start w).cons (Own.nil w 0 _ _) (fun g hg=>by cases hg) (fun _ _ g hg=>by cases hg)
 case round=>
  obtain ⟨k,vs,hk,rfl,hKI,hS⟩:=hrel
  by_cases hlt:k<l.length
  ·have ik:(k:Int)<(l.length:Int):=by omega
   by_cases h30:kind=3∧k=0
   ·obtain ⟨rfl,rfl⟩:=h30
    have hK1:KeysIn w vs (xL 3 ((pcs l).take 1)):=by rw [eR];rw [pL] at hKI;exact hKI
    clear hKI;go_wp2_with fail;go_roundw
    case rel=>exact ⟨1,vs,by omega,rfl,hK1,hS⟩
    case measure=>simp [intOf];omega
   ·have hstep:=eT (l:=pcs l) (kind:=kind) (k:=k) (by rw [zA];exact hlt) h30;rw [zV hlt] at hstep;obtain ⟨ad,B,b,rfl,q0,hkr⟩:=hl.key_at hlt;have hK1:=hKI.snoc hkr;rw [←hstep] at hK1
    have hvl:(vs.length+1)*24≤140737488355328:=by
     have h1:=hKI.1;have h2:=p5 kind ((pcs l).take k)
     have h3:((pcs l).take k).length≤k:=by rw [List.length_take];omega
     omega
    have q1:=(hS.old_cell (v:=w) (by simp) _ (World.block_lt_of_cell? w _ q0)).trans q0;have hown:Own wr 0 41 1 _ vs.length vs:=hS.head;generalize l[k].c.key=key at*;have HK:=Lib.hid hK1;clear hstep hKI hK1 q0 hkr
    have fin:∀(v':Value) (w':World),Sep w w' [zP 41 1 v' (vs++ [Value.slice B key.length b]).length (vs++ [Value.slice B key.length b]),yK w]→∃(k':Nat) (vs':List Value),k'≤l.length∧Value.int .i64 ((k:Int)+1)= .int .i64 (k':Int)∧KeysIn w vs' (xL kind ((pcs l).take k'))∧Sep w w' [zP 41 1 v' vs'.length vs',yK w]:=
     fun v' w' h=>⟨k+1,_,by omega,by go_num,HK.out,h⟩
    have FIN:=Lib.hid fin;clear fin HK
    by_cases h3:kind=3
    ·have e3:(kind !=3)=false:=by simp [h3]
     have ik0:(0:Int)<(k:Int):=by omega
     clear h3 h30
     go_wp2_with (first
      |(at_builtin;refine kV rfl (.tmp 20) (.tmp 26) rfl 0 _ vs rfl hown _ rfl 41 rfl hvl (Nat.zero_le _) ?_;intro v3 w3 ho3 hg3 hk3;have hS3:=hS.appendedL ho3 hg3 hk3)
      |fail)
     go_roundw
     case rel=>exact FIN.out _ _ hS3
     case measure=>simp [intOf];omega
    ·have e3:(kind !=3)=true:=by simp [h3]
     clear h3 h30
     go_wp2_with (first
      |(at_builtin;refine kV rfl (.tmp 20) (.tmp 26) rfl 0 _ vs rfl hown _ rfl 41 rfl hvl (Nat.zero_le _) ?_;intro v3 w3 ho3 hg3 hk3;have hS3:=hS.appendedL ho3 hg3 hk3)
      |fail)
     go_roundw
     case rel=>exact FIN.out _ _ hS3
     case measure=>simp [intOf];omega
  ·obtain rfl:k=l.length:=by omega
   have e:(pcs l).take l.length=pcs l:=List.take_of_length_le (by rw [zA];omega);rw [e] at hKI;have hrl:=hKI.rdL hS (by simp);have hcom:=uK _ _ _ hrl;have hcm:vL (xL kind (pcs l))=zD kind (pcs l):=rfl;rw [hcm] at hcom;have hS0:Sep w _ [yK w]:=hS.tail;obtain ⟨KA,kc,rfl,hkm⟩:=hrl.form;rcases Nat.eq_zero_or_pos (zD kind (pcs l)) with h0|h0
   ·have hp:=u7 h0;have HP:=Lib.hid hp;rw [h0] at hcom;clear h0 hp hcm hrl hKI hS;go_wp2_with (first|(go_at_call 161;refine hcom.mono ?_;rintro e w1 ⟨rfl,hb1⟩)|fail);go_ret;rw [HP.out];exact ⟨_,rfl,OwB.nil _ _,(hS0.below hb1).belowOld (_v:=w) (by simp)⟩
   ·obtain ⟨hk0,hle,hpf⟩:=uE h0;obtain ⟨ad,B,b,rfl,q0,hr0⟩:=hrl.at_ hk0
    have hbl:(xL kind (pcs l))[0].length≤100000000000000:=by
     have hm:=List.getElem_mem hk0;generalize (xL kind (pcs l))[0]=t at hm;unfold xL at hm;obtain ⟨x,hx,rfl⟩:=List.mem_map.1 hm
     have hx2:x∈pcs l:=by
      split at hx
      ·exact List.mem_of_mem_drop hx
      ·exact hx
     unfold pcs at hx2;obtain ⟨y,hy,rfl⟩:=List.mem_map.1 hx2;exact HB.out y hy
    have HPF:=Lib.hid hpf;obtain ⟨s,hs⟩:∃s,zD kind (pcs l)=s:=⟨_,rfl⟩;rw [hs] at hcom h0 hle hpf;have HS:=Lib.hid hs;have i0:((s:Int)==0)=false:=beq_eq_false_iff_ne.2 (by omega)
    have i1:(0:Int)<((xL kind (pcs l)).length:Int):=by omega
    obtain ⟨NK,hNK⟩:∃n,(xL kind (pcs l)).length=n:=⟨_,rfl⟩;rw [hNK] at i1 hcom hkm⊢;have HPF:Hid (xE kind (pcs l)=(xL kind (pcs l))[0].take s):=Lib.hid hpf;generalize (xL kind (pcs l))[0]=key at*;clear hpf hs hcm hrl hKI HS hNK hk0;have q0:∀w',Below _ _ w'→w'.cell? ad=some (.slice B key.length b):=fun w' hb'=>(hb'.cell (World.block_lt_of_cell? _ _ q0)).trans (by simpa [Addr.add] using q0);go_upto_region 10 with (first|(go_at_call 161;refine hcom.mono ?_;rintro e w1 ⟨rfl,hb1⟩)|fail);have q1:=q0 w1 hb1;have hr1:=hr0.below hb1 (Nat.le_refl _);obtain ⟨B2,b2,hrun,hrd⟩:=hr1.run_h s hle;have hB1:=(hS0.below hb1).belowOld (_v:=w) (by simp);have hN1:=(Sep.start w1).nil
    have htl:(key.take s).length≤100000000000000:=by rw [List.length_take];omega
    clear hr0 hr1 q0 hcom;go_wp2_with (first|(go_at_call 124;refine (yL hN1 (RdIn.old hrd (by simp)) (by simp only [List.length_nil];omega)).mono ?_;rintro e w2 ⟨v2,rfl,hS2⟩)|fail);go_ret;rw [HPF.out];exact ⟨v2,rfl,OwB.low (hS2.ownOld (by simp)) hB1.size,hB1.trans ((hS2.belowOld (_v:=w1) (by simp)).mono hB1.size)⟩
theorem cK (kind:Int) (v:Value) (l:List CV) (w:World) (hl:RdCs w v l) (hn:l.length≤2000000000000) (hf:xT (pcs l)≤2305843009213693952) (hcb:∀x∈l,x.c.key.length+x.c.val.length≤100000000000000):
 Calls Tryz.prog 122 #[.int .i64 kind,v] w fun e w'=>e= .returned (.int .i64 (zS kind (pcs l):Nat))∧Below w.heap.size w w':=by
 have hk:∀x∈l,x.c.key.length≤100000000000000:=fun x hx=>by have:=hcb x hx;omega
 have hSh:=bV kind v l w hl hn hk;have hpk:∀(i:Nat) (hi:i<(pcs l).length),¬(kind=3∧i=0)→zD kind (pcs l)≤(pcs l)[i].key.length:=fun i hi hn=>(xS (kind:=kind) hi hn).1
 have hsb:zD kind (pcs l)≤100000000000000:=by
  rcases Nat.eq_zero_or_pos (zD kind (pcs l)) with e|e
  ·omega
  ·obtain ⟨i,hi,hn⟩:=jN e;have h2:=hpk i hi hn
   have h3:∀x∈pcs l,x.key.length≤100000000000000:=fun x hx=>by
    unfold pcs at hx;obtain ⟨y,hy,rfl⟩:=List.mem_map.1 hx;exact hk y hy
   have h4:=h3 _ (List.getElem_mem hi);omega
 have hTk:=fun W hW=>pJ kind v l (zD kind (pcs l)) W hW hf hcb hsb hpk;have hps:z5 kind (pcs l) (zD kind (pcs l))=zS kind (pcs l):=rfl;rw [hps] at hTk;have hpl:=yQ kind (pcs l);have HTK:=Lib.hid hTk;have HPL:=Lib.hid hpl;clear hps hpk hsb hTk hk hpl hcb;go_enter Tryz.func122,Tryz.ntmps122;go_upto_region 2 with (first|(go_at_call 123;refine hSh.mono ?_;rintro e w1 ⟨v1,rfl,ho1,hb1⟩)|fail);have hl1:=HTK.out w1 (hl.below hb1);obtain ⟨A1,a1,rfl⟩:=Own.slice ho1;rw [HPL.out];clear hSh ho1 HTK HPL;go_wp2_with (first|(go_at_call 155;refine hl1.mono ?_;rintro e w2 ⟨rfl,hb2⟩)|fail);go_ret;exact ⟨rfl,hb1.trans (hb2.mono hb1.size)⟩
theorem zBD (n k:Nat):n/256^k/256=n/256^(k+1):=by rw [Nat.pow_succ,Nat.div_div_eq_div_mul]
theorem bY (n:Nat) (hn:n<18446744073709551616) (wd:Nat) (h1:1≤wd) (h8:wd≤8) (w:World):
 Calls Tryz.prog 117 #[.int .u64 n,.int .i64 wd] w fun e w'=>∃v,e= .returned v∧OwB w' w.heap.size v (zI n wd)∧Below w.heap.size w w':=by
 have g1:(1:Int)≤(wd:Int):=by omega
 have g2:(wd:Int)≤8:=by omega
 go_enter Tryz.func117,Tryz.ntmps117
 go_wp2
 go_loopw [5,6] (fun v i wr=>∃(k:Nat),i= .int .i64 ((k:Int)-1)∧k≤wd∧OwB wr w.heap.size v (zI (n/256^k) (wd-k))∧Below w.heap.size w wr)
  (fun _ i _=>(intOf i+1).toNat)
 case atStart=>exact ⟨wd,rfl,Nat.le_refl _,by rw [Nat.sub_self];exact OwB.nil _ _,Below.refl _ _⟩
 case round=>
  obtain ⟨k,rfl,hk,hown,hw⟩:=hrel;rcases Nat.eq_zero_or_pos k with rfl|hpos
  ·go_wp2
   go_ret;rw [Nat.pow_zero,Nat.div_one,Nat.sub_zero] at hown;exact ⟨_,rfl,hown,hw⟩
  ·obtain ⟨k',rfl⟩:∃k',k=k'+1:=⟨k-1,by omega⟩
   have e1:((k'+1:Nat):Int)-1=(k':Int):=by omega
   rw [e1]
   have hfx:zI (n/256^k') (wd-k')=zI (n/256^(k'+1)) (wd-(k'+1))++ [UInt8.ofNat (n/256^k')]:=by
    rw [←zBD,show wd-k'=(wd-(k'+1))+1 by omega];rfl
   have HF:=Lib.hid hfx;clear hfx e1
   go_wp2
   obtain ⟨wo,rfl⟩:∃wo:World,wo=wr:=⟨_,rfl⟩
   go_loop [7,8] (fun m i=>∃(j:Nat),i= .int .i64 (j:Int)∧j≤k'∧m= .int .u64 (n/256^j:Nat)) (fun _ i=>k'-(intOf i).toNat)
   case atStart=>exact ⟨0,rfl,Nat.zero_le _,by simp⟩
   case round=>
    obtain ⟨j,rfl,hj,rfl⟩:=hrel;have hq:n/256^j<18446744073709551616:=Nat.lt_of_le_of_lt (Nat.div_le_self _ _) hn
    by_cases hlt:j<k'
    ·have HD:=Lib.hid (zBD n j);generalize n/256^j=q at*
     go_wp2
     go_round
     case rel=>exact ⟨j+1,by go_num,by omega,by rw [←HD.out];go_num⟩
     case measure=>simp [intOf];omega
    ·obtain rfl:j=k':=by omega
     have hlen:=zE (n/256^(j+1)) (wd-(j+1))
     have hlen2:(zI (n/256^(j+1)) (wd-(j+1))).length≤8:=by omega
     generalize zI (n/256^(j+1)) (wd-(j+1))=l at*;generalize hqq:n/256^j=q at*;have HQ:=Lib.hid hqq;clear hlen hqq;go_wp2_with (first|(at_builtin;refine jO rfl (.tmp 30) (.tmp 34) rfl w.heap.size _ l rfl hown (UInt8.ofNat q) _ (congrArg (Value.int .u8) (f8 q).symm) 5 rfl (by omega) hw.size ?_;intro v1 w1 hown1 hg1 _hat1));go_roundw
     case rel=>
      rw [←HF.out,←HQ.out] at hown1;exact ⟨j,rfl,by omega,hown1,hw.grown hg1 hw.size (fun k hk=>(hown.lt k hk).1)⟩
     case measure=>simp [intOf]
theorem rT (n:Nat) (hn:n<18446744073709551616) (w:World):
 Calls Tryz.prog 117 #[.int .u64 n,.int .i64 4] w fun e w'=>∃v,e= .returned v∧OwB w' w.heap.size v (zI n 4)∧Below w.heap.size w w':=
 bY n hn 4 (by omega) (by omega) w
theorem zD1 (r:Nat) (h:r<4294967296) (x:UInt8) (w:World):
 Calls Tryz.prog 160 #[.int .u32 r,.int .u8 (x.toNat:Int)] w fun e w'=>e= .returned (.int .u32 (gV r x:Nat))∧w=w':=by
 have hxb:x.toNat<256:=x.toNat_lt;have hx:=u32_xor_nat r x.toNat h (by omega);have hy:r^^^x.toNat<4294967296:=Nat.xor_lt_two_pow (n:=32) h (by omega);have HB:Hid (gV r x=gP 8 (r^^^x.toNat)):=rfl;generalize x.toNat=b at*;generalize r^^^b=y at*;go_enter Tryz.func160,Tryz.ntmps160
 go_wp2
 go_loop [5,6] (fun q i=>∃j:Nat,i= .int .i64 (j:Int)∧j≤8∧q= .int .u32 (gP j y:Nat)) (fun _ i=>8-(intOf i).toNat)
 case atStart=>exact ⟨0,rfl,by omega,rfl⟩
 case round=>
  obtain ⟨j,rfl,hj,rfl⟩:=hrel
  by_cases hlt:j<8
  ·have hq:=zA4 j y hy;have hs:gP (j+1) y=qB (gP j y):=o5 j 1 y;have HS:=Lib.hid hs;clear hs;generalize gP j y=q at*
   by_cases hodd:q%2=1
   ·have e1:((q:Int)%2==1)=true:=by simp;omega
    have e2:bits .xor .u32 ((q:Int)/2) 2197175160=(qB q:Nat):=by
     rw [qB,if_pos hodd];exact u32_xor_nat (q/2) 2197175160 (by omega) (by omega)
    clear hodd
    go_wp2
    go_round
    case rel=>exact ⟨j+1,by go_num,by omega,by rw [HS.out]⟩
    case measure=>simp [intOf];omega
   ·have e1:((q:Int)%2==1)=false:=by simp;omega
    have e2:Hid (qB q=q/2):=by unfold qB;exact if_neg hodd
    clear hodd
    go_wp2
    go_round
    case rel=>exact ⟨j+1,by go_num,by omega,by rw [HS.out,e2.out];go_num⟩
    case measure=>simp [intOf];omega
  ·obtain rfl:j=8:=by omega
   rw [←HB.out]
   go_wp2
   go_ret;exact ⟨rfl,rfl⟩
theorem wI (v:Value) (l:List UInt8) (w:World) (hv:RdB w v l):
 Calls Tryz.prog 119 #[v] w fun e w'=>e= .returned (.int .u32 (jQ l:Nat))∧w=w':=by
 obtain ⟨A,c,rfl,hm⟩:=hv.form;go_enter Tryz.func119,Tryz.ntmps119
 go_wp2
 go_loop [3,4] (fun q i=>∃j:Nat,i= .int .i64 (j:Int)∧j≤l.length∧q= .int .u32 (kG 4294967295 (l.take j):Nat)) (fun _ i=>l.length-(intOf i).toNat)
 case atStart=>exact ⟨0,rfl,by omega,rfl⟩
 case round=>
  obtain ⟨j,rfl,hj,rfl⟩:=hrel
  by_cases hlt:j<l.length
  ·obtain ⟨ad,rfl,hcell⟩:=hv.at_ hlt;have hq:kG 4294967295 (l.take j)<4294967296:=dH _ _ (by omega)
   have hs:kG 4294967295 (l.take (j+1))=gV (kG 4294967295 (l.take j)) l[j]:=by
    rw [List.take_succ_eq_append_getElem hlt,tU]
   have HS:=Lib.hid hs;clear hs;generalize l[j]=x at*;generalize kG 4294967295 (l.take j)=q at*;go_wp2_with (go_at_call 160;refine (zD1 q hq x _).mono ?_;rintro e w' ⟨rfl,rfl⟩)
   go_round
   case rel=>exact ⟨j+1,by go_num,by omega,by rw [HS.out]⟩
   case measure=>simp [intOf];omega
  ·obtain rfl:j=l.length:=by omega
   rw [List.take_length];have hr0:kG 4294967295 l<4294967296:=dH _ _ (by omega);have hn:bits .xor .u32 (kG 4294967295 l:Nat) 4294967295=(jQ l:Nat):=u32_xor_nat _ 4294967295 hr0 (by omega)
   go_wp2
   go_ret;exact ⟨rfl,rfl⟩
end Go.Proofs.YtfcnkpofcekmgaaGreat
