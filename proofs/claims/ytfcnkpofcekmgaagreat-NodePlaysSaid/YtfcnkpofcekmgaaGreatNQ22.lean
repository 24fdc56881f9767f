/- Texts joined. -/
import Derived.Test.YtfcnkpofcekmgaaGreatNQ21
set_option maxRecDepth 100000
set_option maxHeartbeats 64000000
namespace Go.Proofs.YtfcnkpofcekmgaaGreat
open Go.RowKit
def fA (w:World) (kind:Int) (l:List PC) (P:Int) (e:Ending) (w':World):Prop:=
 Below w.heap.size w w'∧((zO kind&&zT P)=false∧e= .returned (.tuple #[.slice none 0 0,.int .i64 1])∨
  (zO kind&&zT P)=true∧((kQ kind l P.toNat≠0∧e= .returned (.tuple #[.slice none 0 0,.int .i64 (kQ kind l P.toNat)]))∨
   (kQ kind l P.toNat=0∧∃v,e= .returned (.tuple #[v,.int .i64 0])∧OwB w' w.heap.size v (x9 kind l P.toNat))))
def zKL:Value→Nat
 | .slice _ n _=>n
 |_=>0
theorem r6 (n:Nat) (hn:n<18446744073709551616) (w:World):Calls Tryz.prog 117 #[.int .u64 n,.int .i64 2] w fun e w'=>∃v,e= .returned v∧OwB w' w.heap.size v (zI n 2)∧Below w.heap.size w w':=
 bY n hn 2 (by omega) (by omega) w
theorem zEK (n:Nat) (hn:n<18446744073709551616) (w:World):Calls Tryz.prog 117 #[.int .u64 n,.int .i64 4] w fun e w'=>∃v,e= .returned v∧OwB w' w.heap.size v (zI n 4)∧Below w.heap.size w w':=
 bY n hn 4 (by omega) (by omega) w
theorem aG (kind:Int) (s a:Nat) (l:List PC) {k:Nat} (hk:k<l.length):yH kind s a 0 (l.take (k+1))=yH kind s a 0 (l.take k)++zI (a+(zN kind s 0 (l.take k)).length) 2:=by
 rw [List.take_succ_eq_append_getElem hk,gE];simp only [yH,List.append_nil]
theorem eB (kind:Int) (s:Nat) (l:List PC) {k:Nat} (hk:k<l.length):zN kind s 0 (l.take (k+1))=zN kind s 0 (l.take k)++pcF kind k l[k] s:=by
 rw [List.take_succ_eq_append_getElem hk,xN];simp only [zN,List.append_nil,List.length_take,Nat.zero_add,Nat.min_eq_left (Nat.le_of_lt hk)]
theorem tB (kind:Int) (s:Nat) (l:List PC) (k:Nat):(zN kind s 0 (l.take k)).length≤(zN kind s 0 l).length:=by
 conv=>rhs;rw [←List.take_append_drop k l,xN]
 simp
theorem iI (kind:Int) (v:Value) (l:List CV) (P:Int) (w:World) (hl:RdCs w v l) (hn:l.length≤2000000000000):
 Calls Tryz.prog 64 #[.int .i64 kind,v,.int .i64 P] w (fA w kind (pcs l) P):=by
 obtain ⟨A,c,rfl,hm,hc⟩:=hl.slice;have hPa:=qZ P w
 have hcut0:∀b2 b3:Bool,(kind !=2)=b2→(kind !=3)=b3→zO kind= !(b2&&b3):=fun b2 b3 h2 h3=>by
  subst h2 h3;unfold zO
  by_cases e2:kind=2
  ·simp [e2]
  ·by_cases e3:kind=3
   ·simp [e3]
   ·simp [e2,e3]
 have HC0:=Lib.hid hcut0;obtain ⟨kp,hkp⟩:∃b,zT P=b:=⟨_,rfl⟩;obtain ⟨b2,hb2⟩:∃b,(kind !=2)=b:=⟨_,rfl⟩;obtain ⟨b3,hb3⟩:∃b,(kind !=3)=b:=⟨_,rfl⟩;have HKB:Hid (zO kind= !(b2&&b3)):=Lib.hid (hcut0 b2 b3 hb2 hb3);have HKP:=Lib.hid hkp;rw [hkp] at hPa;clear hkp hcut0;go_enter Tryz.func64,Tryz.ntmps64;go_upto_region 2 with (first|(go_at_call 110;refine hPa.mono ?_;rintro e w1 ⟨rfl,rfl⟩)|fail);clear hPa
 go_cut [35] (fun a wx=>a= .bool ((b2&&b3)|| !kp)∧w=wx)
 case first=>
  cases b2<;>cases b3<;>cases kp<;>
  ·go_wp2_with fail;go_meet;exact ⟨rfl,rfl⟩
 case rest=>
  obtain ⟨rfl,rfl⟩:=hcut;clear hb2 hb3;obtain ⟨bb,hbb⟩:∃b,((b2&&b3)|| !kp)=b:=⟨_,rfl⟩;rw [hbb];have HKK:Hid ((zO kind&&zT P)= !bb):=Lib.hid (by rw [HKB.out,HKP.out,←hbb];cases b2<;>cases b3<;>cases kp<;>rfl);clear hbb HC0 HKB HKP
  cases bb with
  |true=>
   go_wp2_with fail;go_ret2;unfold fA;exact ⟨Below.refl _ _,.inl ⟨HKK.out,rfl⟩⟩
  |false=>
   have HK:Hid ((zO kind&&zT P)=true):=HKK;have hkk:=HK.out;simp only [Bool.and_eq_true] at hkk;obtain ⟨hk0,hp0⟩:=hkk;have HKD:Hid (kind=2∨kind=3):=Lib.hid (of_decide_eq_true hk0);obtain ⟨hP1,hP2⟩:=zZ hp0;clear hk0 hp0 HKK;obtain ⟨Q,rfl⟩:∃Q:Nat,P=(Q:Int):=⟨P.toNat,by omega⟩
   have hQ1:512≤Q:=by omega
   have hQ2:Q≤65536:=by omega
   go_wp2_with fail
   go_loopw [9,10,11] (fun i _ _ wr=>∃k:Nat,k≤l.length∧i= .int .i64 (k:Int)∧Hid (yT kind Q none (pcs l)=yT kind Q (xH (pcs l) k) ((pcs l).drop k))∧Hid (∀j (hj:j<k) (hjl:j<(pcs l).length),OkC Q (pcs l)[j])∧Below w.heap.size w wr) (fun i _ _ _=>l.length-(intOf i).toNat)
   case atStart=>exact ⟨0,Nat.zero_le _,rfl,Lib.hid rfl,Lib.hid (fun j hj=>by omega),Below.refl _ _⟩
   case round=>
    obtain ⟨k,hk,rfl,HSC,HOK,hB⟩:=hrel
    by_cases hlt:k<l.length
    ·have ik:(k:Int)<(l.length:Int):=by omega
     have hlp:k<(pcs l).length:=by rw [zA];exact hlt
     have hst:=dC (kind:=kind) (P:=Q) hlp;have hpk:=kA (pcs l) hlp;rw [←HSC.out] at hst
     have hcx:∀c,(pcs l)[k]=c→Hid (zQ kind Q c=true→∀j (hj:j<k+1) (hjl:j<(pcs l).length),OkC Q (pcs l)[j]):=fun c hc=>Lib.hid (fun hmay j hj hjl=>by
      by_cases e:j=k
      ·subst e;rw [hc];exact xY hmay
      ·exact HOK.out j (by omega) hjl)
     rw [zV hlt] at hst hpk;have hcx:=hcx _ (zV hlt);obtain ⟨ad,rfl,c0,c1,c2,c3,c4⟩:=(hl.below hB).at_ hlt;have hx:=(hl.below hB).ok _ (List.getElem_mem hlt)
     have hprev:∀q,xH (pcs l) k=some q→∃A0 a0,0<k∧RdB wr (.slice A0 q.length a0) q∧wr.cell? (ad.add ((k-1)*5))=some (.slice A0 q.length a0):=fun q hq=>by
      unfold xH at hq
      split at hq
      ·cases hq
      ·have hk1:k-1<l.length:=by omega
       obtain ⟨_,ea,d0,_⟩:=(hl.below hB).at_ hk1
       cases ea
       have hxp:=(hl.below hB).ok _ (List.getElem_mem hk1)
       have e1:(pcs l).getD (k-1) default=l[k-1].c:=by simp [List.getD,pcs,hk1]
       rw [e1] at hq;injection hq with hq;obtain ⟨A0,a0,he,_⟩:=hxp.k.form;rw [he,hq] at d0;have hk2:=hxp.k;rw [he,hq] at hk2;exact ⟨A0,a0,by omega,hk2,d0⟩
     generalize l[k]=x at*;obtain ⟨A1,a1,B1,b1,key,ck,val,pg,ct,rfl,_,_⟩:=CV.form hx;have hma:=tR kind Q HKD.out hQ2 _ wr hx;have hxk:RdB wr (.slice A1 key.length a1) key:=hx.k
     have hst':yT kind Q none (pcs l)=if zQ kind Q ⟨key,ck,val,pg,ct⟩=false then 62 else if qW (xH (pcs l) k) key=false then 63 else yT kind Q (xH (pcs l) (k+1)) ((pcs l).drop (k+1)):=hst
     have HCX:=Lib.hid hcx.out;unfold zJ at hma;rcases Bool.eq_false_or_eq_true (zQ kind Q ⟨key,ck,val,pg,ct⟩) with hmy|hmy
     ·rw [if_neg (by rw [hmy];simp)] at hst';have HCN:=Lib.hid (HCX.out hmy)
      have hma':Calls Tryz.prog 120 #[.int .i64 kind,.agg #[.slice A1 key.length a1,.int .i64 ck,.slice B1 val.length b1,.int .i64 pg,.int .i64 ct],.int .i64 (Q:Int)] wr fun e w'=>e= .returned (.bool true)∧Below wr.heap.size wr w':=by
       rw [←hmy];exact hma
      clear hma hmy hst hx hcx;have HST0:=Lib.hid hst';have HPV:=Lib.hid hprev;have HPK0:=Lib.hid hpk;clear hst' hprev hpk;go_upto_region 10 with (first|(go_at_call 120;refine hma'.mono ?_;rintro e w2 ⟨rfl,hb2⟩)|fail);have hB2:=hB.trans (hb2.mono hB.size);have hst':=HST0.out;have hprev:=HPV.out;have hpk:=HPK0.out;clear HST0 HPV HPK0
      by_cases hk0:0<k
      ·obtain ⟨kk,rfl⟩:∃kk,k=kk+1:=⟨k-1,by omega⟩;obtain ⟨q,hq⟩:∃q,xH (pcs l) (kk+1)=some q:=⟨_,kA (pcs l) (by rw [zA];omega)⟩;obtain ⟨A0,a0,_,hqr,hqc⟩:=hprev q hq;rw [hq] at hst';rw [show kk+1-1=kk by omega] at hqc
       have j1:(0:Int)≤(kk:Int):=by omega
       have j2:(kk:Int)<(l.length:Int):=by omega
       have j3:kk<l.length:=by omega
       have j4:IntKind.i64.wrap (kk:Int)=(kk:Int):=by rw [IntKind.wrap_i64];omega
       have j5:(0:Int)<(kk:Int)+1:=by omega
       have j6:(0:Int)≤(kk:Int)+1:=by omega
       have j7:(kk:Int)+1<(l.length:Int):=by omega
       have j8:((kk:Int)+1).toNat=kk+1:=by omega
       have j9:IntKind.i64.wrap ((kk:Int)+1)=(kk:Int)+1:=by rw [IntKind.wrap_i64];omega
       have j10:kk+1<l.length:=by omega
       have hst2:yT kind Q none (pcs l)=if decide (yD q key<0)=false then 63 else yT kind Q (xH (pcs l) (kk+1+1)) ((pcs l).drop (kk+1+1)):=hst'
       have HST:=Lib.hid hst2;clear hst' hst2 hq hprev hpk;have e1:w2.cell? (ad.add (kk*5))=some (.slice A0 q.length a0):=(hb2.cell (World.block_lt_of_cell? wr _ hqc)).trans hqc;have e2:w2.cell? (ad.add ((kk+1)*5))=some (.slice A1 key.length a1):=(hb2.cell (World.block_lt_of_cell? wr _ c0)).trans c0;have hq2:=hqr.below hb2 (Nat.le_refl _);have hx2:=hxk.below hb2 (Nat.le_refl _);have hah:=g8 _ _ q key w2.drew hq2.drew hx2.drew;have HAH:=Lib.hid hah
       have HC:Hid (∀w',Below w2.heap.size w2 w'→w'.cell? (ad.add (kk*5))=some (.slice A0 q.length a0)∧w'.cell? (ad.add ((kk+1)*5))=some (.slice A1 key.length a1)):=Lib.hid fun w' hb'=>
        ⟨(hb'.cell (World.block_lt_of_cell? w2 _ e1)).trans e1,(hb'.cell (World.block_lt_of_cell? w2 _ e2)).trans e2⟩
       clear hma' hqc c0 c1 c2 c3 c4 hqr hxk hb2 hah;generalize hod:decide (yD q key<0)=od at*;clear hod
       cases od with
       |true=>
        have hsn:yT kind Q none (pcs l)=yT kind Q (xH (pcs l) (kk+1+1)) ((pcs l).drop (kk+1+1)):=by rw [HST.out,if_neg (by simp)]
        have HSN:=Lib.hid hsn;clear hsn;go_upto_region 11 with (fail)
        go_region_held3 (fun w'=>w'.cell? (ad.add (kk*5))=some (.slice A0 q.length a0)∧w'.cell? (ad.add ((kk+1)*5))=some (.slice A1 key.length a1))
         (first|exact ⟨e1,e2⟩|exact HC.out _ hb7|go_keep)
         (first
          |(go_at_call 121;refine HAH.out.mono ?_;rintro e w7 ⟨rfl,hw7⟩;have hb7:Below w2.heap.size w2 w7:=(Below.refl _ _).drew.trans hw7)
          |fail)
        go_wp2_with fail;exact ⟨⟨kk+1+1,by omega,by go_num,HSN,HCN,hB2.trans (hb7.mono hB2.size)⟩,by simp [intOf];omega⟩
       |false=>
        have henc:kQ kind (pcs l) Q=63:=by
         have:=HST.out
         rw [if_pos (by simp)] at this;unfold kQ;rw [if_pos (by rw [this];simp),this]
        have HE:=Lib.hid henc;clear henc;go_upto_region 11 with (fail)
        go_region_held3 (fun w'=>w'.cell? (ad.add (kk*5))=some (.slice A0 q.length a0)∧w'.cell? (ad.add ((kk+1)*5))=some (.slice A1 key.length a1))
         (first|exact ⟨e1,e2⟩|exact HC.out _ hb7|go_keep)
         (first
          |(go_at_call 121;refine HAH.out.mono ?_;rintro e w7 ⟨rfl,hw7⟩;have hb7:Below w2.heap.size w2 w7:=(Below.refl _ _).drew.trans hw7)
          |fail)
        go_wp2_with fail;go_ret2;unfold fA;rw [show ((Q:Int)).toNat=Q from rfl,HE.out];exact ⟨hB2.trans (hb7.mono hB2.size),.inr ⟨HK.out,.inl ⟨by omega,rfl⟩⟩⟩
      ·obtain rfl:k=0:=by omega
       have e0:qW (xH (pcs l) 0) key=true:=rfl;rw [e0,if_neg (by simp)] at hst';have HST:=Lib.hid hst';clear hst' e0;go_wp2_with fail;exact ⟨⟨1,by omega,rfl,HST,HCN,hB2⟩,by simp [intOf];omega⟩
     ·have henc:kQ kind (pcs l) Q=62:=by
       rw [if_pos hmy] at hst';unfold kQ;rw [if_pos (by rw [hst'];simp),hst']
      have HE:=Lib.hid henc
      have hma':Calls Tryz.prog 120 #[.int .i64 kind,.agg #[.slice A1 key.length a1,.int .i64 ck,.slice B1 val.length b1,.int .i64 pg,.int .i64 ct],.int .i64 (Q:Int)] wr fun e w'=>e= .returned (.bool false)∧Below wr.heap.size wr w':=by
       rw [←hmy];exact hma
      clear hma hst' hst hmy henc hx hcx;go_wp2_with (first|(go_at_call 120;refine hma'.mono ?_;rintro e w2 ⟨rfl,hb2⟩)|fail);go_ret2;unfold fA;rw [show ((Q:Int)).toNat=Q from rfl,HE.out];exact ⟨hB.trans (hb2.mono hB.size),.inr ⟨HK.out,.inl ⟨by omega,rfl⟩⟩⟩
    ·obtain rfl:k=l.length:=by omega
     have hall:∀c∈pcs l,OkC Q c:=fun c hc=>by
      obtain ⟨j,hj,rfl⟩:=List.getElem_of_mem hc;exact HOK.out j (by rw [zA] at hj;exact hj) hj
     have hsc:yT kind Q none (pcs l)=0:=by
      rw [HSC.out,List.drop_of_length_le (by rw [zA];omega)];rfl
     have hbg:=gD hQ2 hall;rw [zA] at hbg
     have hcb:∀x∈l,x.c.key.length+x.c.val.length≤100000000000000:=fun x hx=>by
      have h:=gU (hall x.c (by unfold pcs;exact List.mem_map_of_mem hx)) hQ2;omega
     have hkb:∀x∈l,x.c.key.length≤100000000000000:=fun x hx=>by have:=hcb x hx;omega
     have hpk:∀(i:Nat) (hi:i<(pcs l).length),¬(kind=3∧i=0)→zD kind (pcs l)≤(pcs l)[i].key.length:=fun i hi hn=>(xS (kind:=kind) hi hn).1;obtain ⟨w1,rfl⟩:∃w1,w1=wr:=⟨_,rfl⟩;have hsz:=cK kind _ l _ (hl.below hB) hn (by omega) hcb;have HSCZ:=Lib.hid hsc;have HCB:=Lib.hid hcb;have HKBD:=Lib.hid hkb;have HPK:=Lib.hid hpk;clear hall hsc HSC HOK hbg hcb hkb hpk;obtain ⟨S,hSS⟩:∃S,zS kind (pcs l)=S:=⟨_,rfl⟩;rw [hSS] at hsz;have HSS:=Lib.hid hSS
     have hSe:S=10+zD kind (pcs l)+2*l.length+(zN kind (zD kind (pcs l)) 0 (pcs l)).length:=by rw [←hSS,←zA l];rfl
     clear hSS
     by_cases hbig:Q<S
     ·have henc:kQ kind (pcs l) Q=61:=by
       unfold kQ;rw [HSCZ.out,if_neg (by simp),if_pos (by rw [HSS.out];exact hbig)]
      have HE:=Lib.hid henc
      have ib:(Q:Int)<(S:Int):=by omega
      clear henc hSe;go_wp2_with (first|(go_at_call 122;refine hsz.mono ?_;rintro e w2 ⟨rfl,hb2⟩)|fail);go_ret2;unfold fA;rw [show ((Q:Int)).toNat=Q from rfl,HE.out];exact ⟨hB.trans (hb2.mono hB.size),.inr ⟨HK.out,.inl ⟨by omega,rfl⟩⟩⟩
     ·have henc:kQ kind (pcs l) Q=0:=by
       unfold kQ;rw [HSCZ.out,if_neg (by simp),if_neg (by rw [HSS.out];exact hbig)]
      have HE:=Lib.hid henc;have hSQ:Hid (zS kind (pcs l)≤Q):=Lib.hid (by rw [HSS.out];omega)
      have ib:¬((Q:Int)<(S:Int)):=by omega
      have hpl:=yQ kind (pcs l);have HLD:Hid (x9 kind (pcs l) Q=vT kind (pcs l) Q++zI (jQ (vT kind (pcs l) Q)) 4):=Lib.hid rfl;have hprl:(vT kind (pcs l) Q).length=Q-4:=kW hSQ.out;have HPRL:=Lib.hid hprl
      have hprk:vT kind (pcs l) Q=(([u8I kind,2]++zI l.length 2)++zI (zD kind (pcs l)) 2)++xE kind (pcs l)++yH kind (zD kind (pcs l)) (6+zD kind (pcs l)+2*l.length) 0 (pcs l)++zN kind (zD kind (pcs l)) 0 (pcs l)++List.replicate (Q-S) 0:=by
       unfold vT;rw [HSS.out,zA]
       simp
      have HPRK:=Lib.hid hprk;have HSE:=Lib.hid hSe;have HSH:=fun W hW=>bV kind (.slice A l.length c) l W hW hn HKBD.out
      have HBY:=Lib.hid (fun (k:Nat) (hk:k<l.length) W (hW:l[k].ok W)=>bF kind k l[k] (zD kind (pcs l)) W hW (fun h=>by
       have:=HPK.out k (by rw [zA];exact hk) h
       rw [zV hk] at this;exact this) (HCB.out _ (List.getElem_mem hk)))
      have HST:=Lib.hid (fun (k:Nat) (hk:k<l.length)=>aG kind (zD kind (pcs l)) (6+zD kind (pcs l)+2*l.length) (pcs l) (k:=k) (by rw [zA];exact hk));have HBS:=Lib.hid (fun (k:Nat) (hk:k<l.length)=>(eB kind (zD kind (pcs l)) (pcs l) (k:=k) (by rw [zA];exact hk)).trans (by rw [zV hk]));have hBL:=tB kind (zD kind (pcs l)) (pcs l);have hsl:=fun k=>vA kind (zD kind (pcs l)) (6+zD kind (pcs l)+2*l.length) 0 ((pcs l).take k);have HSL:=Lib.hid hsl;clear henc hprl hprk HCB HKBD HPK hsl;generalize zD kind (pcs l)=s at*;generalize xE kind (pcs l)=pf at*;obtain ⟨B,hBq⟩:∃B,(zN kind s 0 (pcs l)).length=B:=⟨_,rfl⟩;rw [hBq] at hSe hBL;have HBQ:=Lib.hid hBq;have HBL:=Lib.hid hBL;have HPL:=Lib.hid hpl
      have hfit:10+s+2*l.length+B≤Q:=by omega
      have hS1:Sep w w1 [yK w]:=(Sep.start w).below hB;clear hBq hSe hBL hpl hB;go_upto_region 17 with (first|(go_at_call 122;refine hsz.mono ?_;rintro e w2 ⟨rfl,hb2⟩)|fail);have hS2:=hS1.below hb2;have hsh:=HSH w2 (hl.below (hS2.belowOld (_v:=w) (by simp)));clear hS1 hb2 hsz HSH ib;go_upto_region 18 with (first|(go_at_call 123;refine hsh.mono ?_;rintro e w3 ⟨v3,rfl,ho3,hb3⟩)|fail);obtain ⟨PA,pc,rfl⟩:=Own.slice ho3;have hS3:=hS2.bytes hb3 ho3 (Nat.le_refl _);rw [HPL.out] at hS3⊢;have hkw:=r5 kind;have hS4:=(hS3.alloc 5 (bvs [u8I kind,2])).weak (E':=zB (.slice (some ⟨w3.heap.size,0,none⟩) 2 2) [u8I kind,2]) (fun h=>OBlk.owB' (m:= [u8I kind,2]) h (Nat.zero_le _) (by simp [maxLen])) (fun g hg=>(Option.some.inj hg).symm);have HS4:=Lib.hid hS4;clear hS4 hsh ho3 hb3 hS2 hS3;go_upto_region 19 with (fail);have hS4:Sep w (w3.alloc (.cells #[.int .u8 ((u8I kind).toNat:Int),.int .u8 2] 5)) [zB (.slice (some ⟨w3.heap.size,0,none⟩) 2 2) [u8I kind,2],zB (.slice PA s pc) pf,yK w]:=HS4.out;generalize w3.alloc (.cells #[.int .u8 ((u8I kind).toNat:Int),.int .u8 2] 5)=w4 at*;generalize w3.heap.size=g4 at*;have hwn:IntKind.u64.wrap (l.length:Int)=(l.length:Int):=IntWalk.u64_in _ (by omega);clear HS4 hkw;go_upto_region 20 with (first|(go_at_call 117;refine (r6 l.length (by omega) _).mono ?_;rintro e w5 ⟨v5,rfl,ho5,hb5⟩)|fail);have hS5:Sep w w5 [zB (.slice (some ⟨g4,0,none⟩) 2 2) [u8I kind,2],zB v5 (zI l.length 2),zB (.slice PA s pc) pf,yK w]:=(hS4.bytes hb5 ho5 (Nat.le_refl _)).sw1
      have ha6:=yL (u:=v5) hS5 (RdIn.bytes (l:=zI l.length 2) (by simp)) (by simp [zE]);clear hS4 ho5 hb5 hwn;go_upto_region 21 with (first|(go_at_call 124;refine ha6.mono ?_;rintro e w6 ⟨v6,rfl,hS6⟩)|fail);have hS6:Sep w w6 [zB v6 ([u8I kind,2]++zI l.length 2),zB (.slice PA s pc) pf,yK w]:=(hS6.sw1).tail;have hws:IntKind.u64.wrap (s:Int)=(s:Int):=IntWalk.u64_in _ (by omega);clear hS5 ha6;go_upto_region 22 with (first|(go_at_call 117;refine (r6 s (by omega) _).mono ?_;rintro e w7 ⟨v7,rfl,ho7,hb7⟩)|fail);have hS7:Sep w w7 [zB v6 ([u8I kind,2]++zI l.length 2),zB v7 (zI s 2),zB (.slice PA s pc) pf,yK w]:=(hS6.bytes hb7 ho7 (Nat.le_refl _)).sw1;have ha8:=yL (u:=v7) hS7 (RdIn.bytes (l:=zI s 2) (by simp)) (by simp [zE]);clear hS6 ho7 hb7 hws;go_upto_region 23 with (first|(go_at_call 124;refine ha8.mono ?_;rintro e w8 ⟨v8,rfl,hS8⟩)|fail);have hS8:Sep w w8 [zB v8 (([u8I kind,2]++zI l.length 2)++zI s 2),zB (.slice PA s pc) pf,yK w]:=(hS8.sw1).tail;have ha9:=yL (u:= .slice PA s pc) hS8 (RdIn.bytes (l:=pf) (by simp)) (by simp [zE,HPL.out];omega)
      have hl9:(([u8I kind,2]++zI l.length 2)++zI s 2++pf).length=6+s:=by simp [zE,HPL.out];omega
      clear hS7 ha8;go_upto_region 24 with (first|(go_at_call 124;refine ha9.mono ?_;rintro e w9 ⟨v9,rfl,hS9⟩)|fail);generalize ([u8I kind,2]++zI l.length 2)++zI s 2++pf=H0 at*;have ho9:OwB w9 0 v9 H0:=hS9.head;obtain ⟨OA,oc,rfl⟩:=Own.slice ho9;rw [hl9] at hS9⊢;obtain ⟨a0,ha0⟩:∃a0,6+s+2*l.length=a0:=⟨_,rfl⟩;have HA0:=Lib.hid ha0;have HL9:=Lib.hid hl9;clear hS8 ha9 ho9 hl9;go_wp2_with fail;rw [show (6+(s:Int)+2*(l.length:Int))=(a0:Int) by omega]
      have ha0Q:a0+B+4≤Q:=by omega
      clear ha0
      go_loopw [14,18,19,20,21] (fun o bd i _ _ wr=>∃k:Nat,k≤l.length∧i= .int .i64 (k:Int)∧Sep w wr [zB o (H0++yH kind s (6+s+2*l.length) 0 ((pcs l).take k)),zB bd (zN kind s 0 ((pcs l).take k)),zB (.slice PA s pc) pf,yK w]) (fun _ _ i _ _ _=>l.length-(intOf i).toNat)
      case atStart=>exact ⟨0,Nat.zero_le _,rfl,by simpa [yH,zN] using hS9.nil.sw1⟩
      case round=>
       clear hS9;obtain ⟨k,hk,rfl,hS⟩:=hrel
       by_cases hlt:k<l.length
       ·have ik:(k:Int)<(l.length:Int):=by omega
        have hst:=HST.out k hlt;have hbs:=HBS.out k hlt;have hbk:=HBL.out k;have hbk1:=HBL.out (k+1);have hslk:=HSL.out k;have hl9:=HL9.out;rw [hbs,List.length_append] at hbk1;rw [List.length_take,zA,Nat.min_eq_left hk] at hslk;have hBw:=hS.belowOld (_v:=w) (by simp);obtain ⟨ad,rfl,-⟩:=(hl.below hBw).at_ hlt;have HCE:=Lib.hid (fun W (hb:Below w.heap.size w W)=>(hl.below hb).at_ hlt);have HOK:=Lib.hid (fun W (hb:Below w.heap.size w W)=>(hl.below hb).ok _ (List.getElem_mem hlt));have hby:=HBY.out k hlt;have hx:=(hl.below hBw).ok _ (List.getElem_mem hlt);generalize l[k]=x at*;obtain ⟨A1,a1,B1,b1,key,ck,val,pg,ct,rfl,_,_⟩:=CV.form hx
        unfold zJ at hby
        simp only at hbs hbk1 hby
        obtain ⟨BA,bc,rfl⟩:=Own.slice (hS.tail.head:OwB wr 0 _ _);obtain ⟨q,hq⟩:∃q,(zN kind s 0 ((pcs l).take k)).length=q:=⟨_,rfl⟩;obtain ⟨p,hp⟩:∃p,a0+q=p:=⟨_,rfl⟩
        have hst2:yH kind s (6+s+2*l.length) 0 ((pcs l).take (k+1))=yH kind s (6+s+2*l.length) 0 ((pcs l).take k)++zI p 2:=by
         rw [hst,hq,HA0.out,hp]
        have hw1:IntKind.u64.wrap ((a0:Int)+(q:Int))=(p:Int):=by rw [IntWalk.u64_in _ (by omega)];omega
        have hpb:p<18446744073709551616:=by omega
        rw [hq] at hS hbk hbk1⊢
        have hlo:(H0++yH kind s (6+s+2*l.length) 0 ((pcs l).take k)).length≤131072:=by rw [List.length_append,hl9,hslk];omega
        have hln:(pcF kind k ⟨key,ck,val,pg,ct⟩ s).length+q≤65536:=by omega
        have FIN:Hid (∀W o bd,Sep w W [zB o (H0++yH kind s (6+s+2*l.length) 0 ((pcs l).take k)++zI p 2),zB bd (zN kind s 0 ((pcs l).take k)++pcF kind k ⟨key,ck,val,pg,ct⟩ s),zB (.slice PA s pc) pf,yK w]→
         Sep w W [zB o (H0++yH kind s (6+s+2*l.length) 0 ((pcs l).take (k+1))),zB bd (zN kind s 0 ((pcs l).take (k+1))),zB (.slice PA s pc) pf,yK w]):=Lib.hid (fun W o bd h=>by
         rw [hst2,hbs,←List.append_assoc];exact h)
        have HQ:=Lib.hid hq;clear hst hst2 hbs hbk hbk1 hslk hl9 hBw hx hp hq;generalize hOUT:H0++yH kind s (6+s+2*l.length) 0 ((pcs l).take k)=OUT at*;generalize hBOD:zN kind s 0 ((pcs l).take k)=BOD at*;generalize pcF kind k ⟨key,ck,val,pg,ct⟩ s=PCF at*;clear hOUT hBOD;go_upto_region 30 with (first|(go_at_call 117;refine (r6 p hpb _).mono ?_;rintro e w5 ⟨v5,rfl,ho5,hb5⟩)|fail);have hS5:=(hS.bytes hb5 ho5 (Nat.le_refl _)).sw1;have ha6:=yL (u:=v5) hS5 (RdIn.bytes (l:=zI p 2) (by simp)) (by rw [zE];omega);clear hS ho5 hb5 hw1;go_upto_region 31 with (first|(go_at_call 124;refine ha6.mono ?_;rintro e w6 ⟨v6,rfl,hS6⟩)|fail);have hS6:Sep w w6 [zB v6 (OUT++zI p 2),zB (.slice BA q bc) BOD,zB (.slice PA s pc) pf,yK w]:=(hS6.sw1).tail;have hB6:=hS6.belowOld (_v:=w) (by simp);obtain ⟨_,ea,d0,d1,d2,d3,d4⟩:=HCE.out w6 hB6
        cases ea
        have hby6:=hby w6 (HOK.out w6 hB6)
        clear hS5 ha6 hby
        go_upto_region 32 with (first|(go_at_call 125;refine hby6.mono ?_;rintro e w7 ⟨v7,rfl,ho7,hb7⟩)|fail);have hS7:Sep w w7 [zB (.slice BA q bc) BOD,zB v7 PCF,zB v6 (OUT++zI p 2),zB (.slice PA s pc) pf,yK w]:=(hS6.bytes hb7 ho7 (Nat.le_refl _)).sw [zB v7 PCF,zB v6 (OUT++zI p 2)];have ha8:=yL (u:=v7) hS7 (RdIn.bytes (l:=PCF) (by simp)) (by rw [HQ.out];omega);clear hS6 hb7 ho7 hB6 d0 d1 d2 d3 d4 hby6;go_wp2_with (first|(go_at_call 124;refine ha8.mono ?_;rintro e w8 ⟨v8,rfl,hS8⟩)|fail);have hS9:Sep w w8 [zB v6 (OUT++zI p 2),zB v8 (BOD++PCF),zB (.slice PA s pc) pf,yK w]:=((hS8.sw1).tail).sw1;exact ⟨⟨k+1,by omega,by go_num,FIN.out _ _ _ hS9⟩,by simp [intOf];omega⟩
       ·obtain rfl:k=l.length:=by omega
        have e:(pcs l).take l.length=pcs l:=List.take_of_length_le (by rw [zA];omega);rw [e] at hS;have hslk:=HSL.out l.length;rw [e,zA] at hslk;have hl9:=HL9.out;have hbq:=HBQ.out
        have hH:(H0++yH kind s (6+s+2*l.length) 0 (pcs l)++zN kind s 0 (pcs l)).length=a0+B:=by
         have:=HA0.out
         rw [List.length_append,List.length_append,hl9,hslk,hbq];omega
        have hl1:(H0++yH kind s (6+s+2*l.length) 0 (pcs l)).length+(zN kind s 0 (pcs l)).length≤140737488355328:=by
         rw [←List.length_append,hH];omega
        have ha:=yL hS (RdIn.bytes (l:=zN kind s 0 (pcs l)) (List.mem_cons_self ..)) hl1
        have hz:∀z,a0+B+z=Q-4→H0++yH kind s (6+s+2*l.length) 0 (pcs l)++zN kind s 0 (pcs l)++List.replicate z 0=vT kind (pcs l) Q:=fun z hz=>by
         have h1:=HPRK.out;have h2:=HA0.out;have h3:=HSS.out;have h5:=HSE.out;rw [HBQ.out] at h5;rw [h1,show z=Q-S by omega]
        have HZ:=Lib.hid hz;have HPL2:=HPRL.out;clear e hslk hl9 hbq hl1 hz;generalize hHH:H0++yH kind s (6+s+2*l.length) 0 (pcs l)++zN kind s 0 (pcs l)=H at*;clear hHH;go_wp2_with (first|(go_at_call 124;refine ha.mono ?_;rintro e w5 ⟨v5,rfl,hS5⟩)|fail);have hS5:Sep w w5 [zB v5 H,yK w]:=((hS5.sw1).tail.sw1).tail;clear ha hS
        go_loopw [14] (fun b wr=>∃z:Nat,a0+B+z≤Q-4∧Sep w wr [zB b (H++List.replicate z 0),yK w]) (fun b _=>Q-zKL b)
        case atStart=>exact ⟨0,by omega,by simpa using hS5⟩
        case round=>
         clear hS5;obtain ⟨z,hz,hS⟩:=hrel;have hob:OwB wr 0 _ _:=hS.head;obtain ⟨Ab,cb,rfl⟩:=Own.slice hob
         have hnl:(H++List.replicate z 0).length=a0+B+z:=by rw [List.length_append,hH,List.length_replicate]
         have HRZ:Hid (H++List.replicate (z+1) 0=(H++List.replicate z 0)++ [0]):=Lib.hid (by rw [List.replicate_succ',List.append_assoc]);have HPR:=HZ.out z;obtain ⟨n,hn'⟩:∃n,(H++List.replicate z (0:UInt8)).length=n:=⟨_,rfl⟩;rw [hn'] at hnl;generalize H++List.replicate z 0=bz at*;have HPR:=Lib.hid HPR;rw [hn'] at hob hS⊢
         have hn1:n≤a0+B+z:=by omega
         have hn2:a0+B+z≤n:=by omega
         clear hnl
         by_cases hlt:n<Q-4
         ·have ilt:(n:Int)<(Q:Int)-4:=by omega
          have hn140:bz.length+1≤140737488355328:=by omega
          clear HPR
          go_wp2_with (first
           |(at_builtin;refine jO rfl (.tmp 137) (.tmp 138) rfl 0 _ _ rfl hob 0 _ rfl 5 rfl hn140 (Nat.zero_le _) ?_;intro v8 w8 ho8 hg8 hk8;have hS8:=hS.appended1 ho8 hg8 hk8)
           |fail)
          obtain ⟨A8,c8,rfl⟩:=Own.slice (hS8.head:OwB w8 0 _ _)
          have hl8:(bz++ [(0:UInt8)]).length=n+1:=by rw [List.length_append,hn'];rfl
          exact ⟨⟨z+1,by omega,by rw [HRZ.out];exact hS8⟩,by show Q-(bz++ [(0:UInt8)]).length<Q-n;rw [hl8];omega⟩
         ·have ilt:¬(n:Int)<(Q:Int)-4:=by omega
          have hpre:=HPR.out (by omega);have hsl4:jQ (vT kind (pcs l) Q)<4294967296:=rA _
          have hpl2:(vT kind (pcs l) Q).length+4≤140737488355328:=by rw [HPL2];omega
          subst hpre;have hso:=wI _ (vT kind (pcs l) Q) wr hob.rd;generalize hsm:jQ (vT kind (pcs l) Q)=sm at*;have hsw:IntKind.u64.wrap (sm:Int)=(sm:Int):=IntWalk.u64_in _ (by omega)
          have hn3:n+4≤70000:=by omega
          have HLL:=Lib.hid hn';clear hsm HPR HRZ hn1 hn2 hn' hpl2 HPL2
          go_upto_region 37 with (first
           |(go_at_call 119;refine hso.mono ?_;rintro e w10 ⟨rfl,rfl⟩)
           |fail)
          go_upto_region 38 with (first
           |(go_at_call 117;refine (zEK sm (by omega) _).mono ?_;rintro e w10 ⟨v10,rfl,ho10,hb10⟩)
           |fail)
          have hS10:=(hS.bytes hb10 ho10 (Nat.le_refl _)).sw1;have ha11:=yL (u:=v10) hS10 (RdIn.bytes (l:=zI sm 4) (by simp)) (by rw [zE,HLL.out];omega);clear hso ho10 hb10;go_wp2_with (first|(go_at_call 124;refine ha11.mono ?_;rintro e w11 ⟨v11,rfl,hS11⟩)|fail);go_ret2;unfold fA;rw [show ((Q:Int)).toNat=Q from rfl,HE.out,HLD.out];exact ⟨(hS11.sw1.tail).belowOld (_v:=w) (by simp),.inr ⟨HK.out,.inr ⟨rfl,v11,rfl,(hS11.sw1.tail).ownOld (by simp)⟩⟩⟩
def dW (kind:Int) (l:List PC) (P:Int):Int:=if (zO kind&&zT P)=true then kQ kind l P.toNat else 1
def dQ (kind:Int) (l:List PC) (P:Int):List UInt8:=if dW kind l P=0 then x9 kind l P.toNat else []
theorem zEA (kind:Int) (v:Value) (l:List CV) (P:Int) (w:World) (hl:RdCs w v l) (hn:l.length≤2000000000000):
 Calls Tryz.prog 64 #[.int .i64 kind,v,.int .i64 P] w fun e w'=>∃u,e= .returned (.tuple #[u,.int .i64 (dW kind (pcs l) P)])∧OwB w' w.heap.size u (dQ kind (pcs l) P)∧Below w.heap.size w w':=by
 refine (iI kind v l P w hl hn).mono ?_;unfold fA dQ dW;rintro e w' ⟨hb,⟨h1,rfl⟩|⟨h1,⟨h2,rfl⟩|⟨h2,u,rfl,ho⟩⟩⟩
 ·rw [if_neg (by rw [h1];simp),if_neg (by decide)];exact ⟨_,rfl,OwB.nil _ _,hb⟩
 ·rw [if_pos h1,if_neg h2];exact ⟨_,rfl,OwB.nil _ _,hb⟩
 ·rw [if_pos h1,if_pos h2,h2];exact ⟨_,rfl,ho,hb⟩
theorem zEB {kind:Int} {l:List PC} {b:List UInt8}:jV b kind l↔dW kind l (b.length:Int)=0∧dQ kind l (b.length:Int)=b:=by
 unfold jV dQ dW;rw [Int.toNat_natCast]
 constructor
 ·rintro ⟨h1,h2,h3,h4⟩;rw [if_pos (by rw [h1,h2];rfl),if_pos h3];exact ⟨h3,h4⟩
 ·rintro ⟨h1,h2⟩
  split at h1
  ·rename_i h
   rw [if_pos h,if_pos h1] at h2;rw [Bool.and_eq_true] at h;exact ⟨h.2,h.1,h1,h2⟩
  ·cases h1
theorem gN (v:Value) (l:List UInt8) (a k:Nat) (h1:1≤k) (h8:k≤8) (hal:a+k≤l.length) (w:World) (hv:RdB w v l):
 Calls Tryz.prog 111 #[v,.int .i64 (a:Int),.int .i64 (k:Int)] w fun e w'=>e= .returned (.tuple #[.int .u64 (qU ((l.drop a).take k):Nat),.int .i64 0])∧w=w':=by
 obtain ⟨A,c,rfl,hm⟩:=hv.form;go_enter Tryz.func111,Tryz.ntmps111;go_wp2_with fail
 go_loopw [8,9] (fun n i wr=>∃(j N:Nat),i= .int .i64 ((a:Int)+(j:Int))∧n= .int .u64 (N:Int)∧j≤k∧Hid (N=qU ((l.drop a).take j))∧w=wr)
  (fun _ i _=>a+k-(intOf i).toNat)
 case atStart=>exact ⟨0,0,by simp,rfl,Nat.zero_le _,Lib.hid (by simp [qU]),rfl⟩
 case round=>
  obtain ⟨j,N,rfl,rfl,hj,HN,rfl⟩:=hrel
  by_cases hlt:j<k
  ·have hjl:a+j<l.length:=by omega
   obtain ⟨ad,rfl,hc⟩:=hv.at_ hjl
   have hdl:j<(l.drop a).length:=by simp;omega
   have hn2:Hid (qU ((l.drop a).take (j+1))=N*256+l[a+j].toNat):=Lib.hid (by
    rw [←List.take_append_getElem hdl,nU,←HN.out,List.getElem_drop])
   have hN7:N<72057594037927936:=by rw [HN.out];exact iT _ (by simp;omega)
   have hxb:l[a+j].toNat<256:=l[a+j].toNat_lt;generalize l[a+j].toNat=x at hc hn2 hxb
   have i1:(a:Int)+(j:Int)<(l.length:Int):=by omega
   go_wp2_with fail;go_roundw
   case rel=>exact ⟨j+1,N*256+x,by go_num,by congr 1;omega,by omega,Lib.hid hn2.out.symm,trivial⟩
   case measure=>simp [intOf];omega
  ·obtain rfl:j=k:=by omega
   go_wp2_with fail;go_ret2;rw [←HN.out];exact ⟨rfl,rfl⟩
theorem Sep.snocC {w0 w:World} {L:List Ent} {v:Value} {l:List CV} {y:CV} (h:Sep w0 w (zP 43 5 v (l++ [y]).length (zF (l++ [y]))::zB y.kv y.c.key::zB y.vv y.c.val::(zG l++L))):
 Sep w0 w (zP 43 5 v (l++ [y]).length (zF (l++ [y]))::(zG (l++ [y])++L)):=by
 have e2:zG (l++ [y])=zG l++ [zB y.kv y.c.key,zB y.vv y.c.val]:=by rw [xM];rfl
 rw [e2,List.append_assoc];exact h.perm (List.Perm.cons _ (List.perm_append_comm_assoc [zB y.kv y.c.key,zB y.vv y.c.val] (zG l) L))
theorem Sep.snocC' {w0 w:World} {L:List Ent} {E:Ent} {v:Value} {l:List CV} {y:CV} (h:Sep w0 w (E::zP 43 5 v (l++ [y]).length (zF (l++ [y]))::zB y.kv y.c.key::zB y.vv y.c.val::(zG l++L))):
 Sep w0 w (E::zP 43 5 v (l++ [y]).length (zF (l++ [y]))::(zG (l++ [y])++L)):=by
 have e2:zG (l++ [y])=zG l++ [zB y.kv y.c.key,zB y.vv y.c.val]:=by rw [xM];rfl
 rw [e2,List.append_assoc];exact h.perm (List.Perm.cons _ (List.Perm.cons _ (List.perm_append_comm_assoc [zB y.kv y.c.key,zB y.vv y.c.val] (zG l) L)))
theorem iW {d:List UInt8} {kind:Int} {pre:List UInt8} {i a m:Nat} {c:PC} {t:Nat} (h:vX d kind i pre a=some (c,t)):kE d kind pre i a (m+1)=(kE d kind pre (i+1) t m).map (c:: ·):=by
 rw [kE,h]
theorem eJ {d:List UInt8} {kind:Int} {pre:List UInt8} {i a m:Nat} (h:vX d kind i pre a=none):kE d kind pre i a (m+1)=none:=by
 rw [kE,h]
theorem wT (v:Value) (b:List UInt8) (w:World) (hv:RdB w v b):Calls Tryz.prog 61 #[v] w (DecK w b):=by
 obtain ⟨A,c,rfl,hm⟩:=hv.form;have hPa:=fun W=>qZ (b.length:Int) W
 cases hp:zT (b.length:Int) with
 |false=>
  have HN:Hid (∀kind l,¬jV b kind l):=Lib.hid fun kind l h=>by have:=h.1;rw [hp] at this;cases this
  rw [hp] at hPa;clear hp;go_enter Tryz.func61,Tryz.ntmps61;go_wp2_with (first|(go_at_call 110;refine (hPa _).mono ?_;rintro e w1 ⟨rfl,rfl⟩)|fail);refine bodyPost_ret (v:= .tuple #[.int .i64 0,.slice none 0 0,.int .i64 60]) ?_ rfl ?_
  ·simp [results,Tryz.results61,go_sem]
  ·exact .inr ⟨HN.out,rfl,Below.refl _ _⟩
 |true=>
  obtain ⟨hP1,hP2⟩:=zZ hp
  have hb1:512≤b.length:=by omega
  have hb2:b.length≤65536:=by omega
  have HNO:Hid (∀kind l,jV b kind l→nO b=some l∧vD b=kind):=Lib.hid fun kind l h=>o2 h;rw [hp] at hPa;clear hp;obtain ⟨kb0,hkb⟩:∃kb,b[0]? =some kb:=⟨_,List.getElem?_eq_getElem (by omega)⟩;obtain ⟨kb,hkn⟩:∃kb:Nat,kb0.toNat=kb:=⟨_,rfl⟩
  have hgd:vD b=(kb:Int):=by unfold vD;rw [List.getD,hkb,←hkn];rfl
  have hkl:kb<256:=by rw [←hkn];exact kb0.toNat_lt
  obtain ⟨ad,rfl,hcb⟩:=hv.at_ (j:=0) (by omega)
  have hcb':w.cell? ad=some (.int .u8 (kb:Int)):=by
   rw [List.getElem?_eq_getElem (by omega)] at hkb;rw [←hkn,←Option.some.inj hkb]
   have:=hcb
   rw [show ad.add 0=ad from rfl] at this;exact this
  have HKF:=Lib.hid hgd
  have hkw:IntKind.i64.wrap (kb:Int)=(kb:Int):=by rw [IntKind.wrap_i64];omega
  have j1:(0:Int)<(b.length:Int):=by omega
  have j2:0<b.length:=by omega
  have hN2:=gN (.slice (some ad) b.length c) b 2 2 (by omega) (by omega) (by omega) w hv;have hN4:=gN (.slice (some ad) b.length c) b 4 2 (by omega) (by omega) (by omega) w hv;rw [show qU ((b.drop 2).take 2)=zL b 2 2 from rfl] at hN2;rw [show qU ((b.drop 4).take 2)=zL b 4 2 from rfl] at hN4;rw [show ((2:Nat):Int)=2 from rfl] at hN2;rw [show ((2:Nat):Int)=2 from rfl,show ((4:Nat):Int)=4 from rfl] at hN4;have hl1:=f9 b 2 2;have hl2:=f9 b 4 2
  have hpf:nO b=if b.length<6+zL b 4 2∨b.length/6<zL b 2 2 then none else kE b (vD b) (tG b) 0 (6+zL b 4 2+2*zL b 2 2) (zL b 2 2):=rfl
  have hpre:tG b=(b.drop 6).take (zL b 4 2):=rfl;rw [hgd,hpre] at hpf;generalize hn2:zL b 2 2=n at*;generalize hm4:zL b 4 2=m at*;have HPF:=Lib.hid hpf
  have e1:IntKind.i64.wrap (n:Int)=(n:Int):=by rw [IntKind.wrap_i64];omega
  have e2:IntKind.i64.wrap (m:Int)=(m:Int):=by rw [IntKind.wrap_i64];omega
  clear hkb hgd hcb hkn hn2 hm4 hpf hpre
  by_cases h6:b.length<6+m
  ·have hpt:=nR w b hb2 6 (by omega) m (.slice (some ad) b.length c) w hv h6;rw [show ((6:Nat):Int)=6 from rfl] at hpt
   have HN:Hid (∀kind l,¬jV b kind l):=Lib.hid fun kind l h=>by
    have h1:=(HNO.out kind l h).1;rw [HPF.out,if_pos (.inl h6)] at h1
    cases h1
   clear h6;go_enter Tryz.func61,Tryz.ntmps61
   go_wp2_with (first
    |(go_at_call 110;refine (hPa _).mono ?_;rintro e w1 ⟨rfl,rfl⟩)
    |(go_at_call 111;(with_reducible refine hN2.mono ?_);rintro e w1 ⟨rfl,rfl⟩)
    |(go_at_call 111;(with_reducible refine hN4.mono ?_);rintro e w1 ⟨rfl,rfl⟩)
    |(go_at_call 112;(with_reducible refine hpt.mono ?_);rintro e w1 ⟨rfl,rfl⟩)
    |fail)
   refine bodyPost_ret (v:= .tuple #[.int .i64 0,.slice none 0 0,.int .i64 60]) ?_ rfl ?_
   ·simp [results,Tryz.results61,go_sem]
   ·exact .inr ⟨HN.out,rfl,Below.refl _ _⟩
  ·obtain ⟨PA,pc,hprd,hpt⟩:=nM w b hb2 6 m (.slice (some ad) b.length c) hv (by omega);have hpt:=hpt w;rw [show ((6:Nat):Int)=6 from rfl] at hpt
   have hpl:((b.drop 6).take m).length=m:=by rw [List.length_take,List.length_drop];omega
   generalize (b.drop 6).take m=pre at*
   by_cases h7:b.length/6<n
   ·have i7:(b.length:Int)/6<(n:Int):=by omega
    have HN:Hid (∀kind l,¬jV b kind l):=Lib.hid fun kind l h=>by
     have h1:=(HNO.out kind l h).1;rw [HPF.out,if_pos (.inr h7)] at h1
     cases h1
    clear h6 h7 hpl;go_enter Tryz.func61,Tryz.ntmps61
    go_wp2_with (first
     |(go_at_call 110;refine (hPa _).mono ?_;rintro e w1 ⟨rfl,rfl⟩)
     |(go_at_call 111;(with_reducible refine hN2.mono ?_);rintro e w1 ⟨rfl,rfl⟩)
     |(go_at_call 111;(with_reducible refine hN4.mono ?_);rintro e w1 ⟨rfl,rfl⟩)
     |(go_at_call 112;(with_reducible refine hpt.mono ?_);rintro e w1 ⟨rfl,rfl⟩)
     |fail)
    refine bodyPost_ret (v:= .tuple #[.int .i64 0,.slice none 0 0,.int .i64 60]) ?_ rfl ?_
    ·simp [results,Tryz.results61,go_sem]
    ·exact .inr ⟨HN.out,rfl,Below.refl _ _⟩
   ·have i7:¬(b.length:Int)/6<(n:Int):=by omega
    have HPF2:Hid (nO b=kE b (kb:Int) pre 0 (6+m+2*n) n):=by show _=_;rw [HPF.out,if_neg (by omega)]
    have e3:IntKind.i64.wrap (6+(m:Int))=6+(m:Int):=by rw [IntKind.wrap_i64];omega
    have e4:IntKind.i64.wrap (2*(n:Int))=2*(n:Int):=by rw [IntKind.wrap_i64];omega
    have e5:IntKind.i64.wrap (6+(m:Int)+2*(n:Int))=6+(m:Int)+2*(n:Int):=by rw [IntKind.wrap_i64];omega
    have hplb:pre.length≤65536:=by omega
    have hnb:n≤b.length/6:=by omega
    have hS0:=Sep.start w;clear h6 h7 hpl HPF;go_enter Tryz.func61,Tryz.ntmps61
    go_upto_region 12 with (first
     |(go_at_call 110;refine (hPa _).mono ?_;rintro e w1 ⟨rfl,rfl⟩)
     |(go_at_call 111;(with_reducible refine hN2.mono ?_);rintro e w1 ⟨rfl,rfl⟩)
     |(go_at_call 111;(with_reducible refine hN4.mono ?_);rintro e w1 ⟨rfl,rfl⟩)
     |(go_at_call 112;(with_reducible refine hpt.mono ?_);rintro e w1 ⟨rfl,rfl⟩)
     |fail)
    clear hPa hN2 hN4 hpt e3 e4 e5;generalize ha0:6+m+2*n=a0 at*
    have ha0i:6+(m:Int)+2*(n:Int)=(a0:Int):=by omega
    rw [ha0i]
    have ha0b:a0≤1000000:=by omega
    clear ha0i ha0;go_wp2_with fail
    go_loopw [13,14,15] (fun av cv i wr=>∃(k:Nat) (l:List CV) (a:Nat),k≤n∧i= .int .i64 (k:Int)∧av= .int .i64 (a:Int)∧a≤1000000∧Hid (l.length=k)∧RngC l∧Hid (kE b (kb:Int) pre 0 a0 n=(kE b (kb:Int) pre k a (n-k)).map (pcs l++ ·))∧Sep w wr (zP 43 5 cv l.length (zF l)::(zG l++ [yK w]))) (fun _ _ i _=>n-(intOf i).toNat)
    case atStart=>exact ⟨0,[],a0,Nat.zero_le _,rfl,rfl,ha0b,Lib.hid rfl,by simp [RngC],Lib.hid (by simp [pcs]),hS0.nilC⟩
    case round=>
     clear hS0;obtain ⟨k,l,a,hk,rfl,rfl,ha,HLK,hR,HP,hS⟩:=hrel;have hown:=(show Own wr 0 43 5 _ l.length (zF l) from hS.head);obtain ⟨B,cc,rfl⟩:=Own.slice hown;rw [HLK.out]
     by_cases hlt:k<n
     ·have ik:(k:Int)<(n:Int):=by omega
      have hrd:=eX hS (by simp) hv hprd hb2 hplb a ha (kb:Int) k
      have hnk:n-k=(n-(k+1))+1:=by omega
      have HNK:=Lib.hid hnk;clear hnk hown;go_wp2_with fail;refine hrd.mono ?_;unfold zBB;rintro e w3 (⟨hno,rfl,hS3⟩|⟨x,t,hso,ht0,htl,rfl,⟨hr1,hr2,hr3⟩,hS3⟩)
      ·have HN:Hid (∀kind l,¬jV b kind l):=Lib.hid fun kind l' h=>by
        have:=(HNO.out kind l' h).1
        rw [HPF2.out,HP.out,HNK.out,eJ hno] at this
        cases this
       have hB3:=hS3.belowOld (_v:=w) (by simp);clear hrd hno HP hS hS3;go_wp2_with fail;refine bodyPost_ret (v:= .tuple #[.int .i64 0,.slice none 0 0,.int .i64 60]) ?_ rfl ?_
       ·simp [results,Tryz.results61,go_sem]
       ·exact .inr ⟨HN.out,rfl,hB3.alloc hB3.size _⟩
      ·have hst:=iW (m:=n-(k+1)) hso;rw [←HNK.out] at hst;have HST:=Lib.hid hst;obtain ⟨kv,vv,key,ck,val,pg,ct⟩:=x;simp only at hr1 hr2 hr3 hS3 HST;have hkO:=(show OwB w3 0 kv key from hS3.head);have hvO:=(show OwB w3 0 vv val from hS3.tail.head);obtain ⟨xK,xk,rfl⟩:=Own.slice hkO;obtain ⟨xV,xv,rfl⟩:=Own.slice hvO;have hone:=vC (x:=⟨.slice xK key.length xk,.slice xV val.length xv,⟨key,ck,val,pg,ct⟩⟩) hkO hvO;have htb:((t:Int)==0)=false:=beq_eq_false_iff_ne.2 (by omega);have hS4:=hS3.alloc 43 [.slice xK key.length xk,.int .i64 ck,.slice xV val.length xv,.int .i64 pg,.int .i64 ct];clear hrd hso hst hkO hvO hS hS3;unfold zJ;go_upto_region 18 with (fail);generalize hW4:w3.alloc (.cells #[.slice xK key.length xk,.int .i64 ck,.slice xV val.length xv,.int .i64 pg,.int .i64 ct] 43)=w4 at*;generalize w3.heap.size=cb at*;clear hW4;obtain ⟨y0,y1,y2,y3,y4⟩:=zC (show OBlk w4 cb 43 [.slice xK key.length xk,.int .i64 ck,.slice xV val.length xv,.int .i64 pg,.int .i64 ct] from hS4.head);have hS5:=hS4.alloc 43 [.slice xK key.length xk,.int .i64 ck,.slice xV val.length xv,.int .i64 pg,.int .i64 ct];have hown2:=(show Own _ 0 43 5 (.slice B l.length cc) l.length (zF l) from hS5.tail.tail.tail.tail.head);have hfive:=Rd.five w4 (.slice xK key.length xk) (.int .i64 ck) (.slice xV val.length xv) (.int .i64 pg) (.int .i64 ct) 43
       have hl9:l.length+1≤65536:=by rw [HLK.out];omega
       have HL9:=Lib.hid hl9;rw [HLK.out] at hown2;clear hl9
       go_upto_region 19 with (first
        |(at_builtin;refine yP rfl (.tmp 79) (.tmp 81) rfl 0 (.slice B k cc) l rfl (by rw [HLK.out];exact hown2) (.slice (some ⟨w4.heap.size,0,none⟩) 1 1) [⟨.slice xK key.length xk,.slice xV val.length xv,⟨key,ck,val,pg,ct⟩⟩] rfl hfive (by simpa [zF] using hone) (by have:=HL9.out;simp only [List.length_singleton];omega) (Nat.zero_le _) ?_;intro v5 w5 ho5 hg5 hk5;obtain ⟨B5,c5,rfl⟩:=Own.slice ho5)
        |fail)
       rw [HLK.out] at hS5;have hS6:=(hS5.sw [_,_,_,_]).appC ho5 hg5 (by rcases hk5 with e|e;exact .inl e;exact .inr ⟨_,e,Nat.le_refl _⟩);have hS7:=Sep.snocC (y:=⟨.slice xK key.length xk,.slice xV val.length xv,⟨key,ck,val,pg,ct⟩⟩) (Sep.pick (L:= [_,_,_,_,_]) [0,3,4] (by decide) rfl hS6)
       have e9:(l++ [(⟨.slice xK key.length xk,.slice xV val.length xv,⟨key,ck,val,pg,ct⟩⟩:CV)]).length=l.length+1:=by simp
       rw [e9] at hS7
       have hS9:Sep w w5 (zP 43 5 (.slice B5 (l.length+1) c5) (l++ [(⟨.slice xK key.length xk,.slice xV val.length xv,⟨key,ck,val,pg,ct⟩⟩:CV)]).length (zF (l++ [(⟨.slice xK key.length xk,.slice xV val.length xv,⟨key,ck,val,pg,ct⟩⟩:CV)]))::(zG (l++ [(⟨.slice xK key.length xk,.slice xV val.length xv,⟨key,ck,val,pg,ct⟩⟩:CV)])++ [yK w])):=by rw [e9];exact hS7
       have HS9:=Lib.hid hS9
       have hP2:kE b (kb:Int) pre 0 a0 n=(kE b (kb:Int) pre (k+1) t (n-(k+1))).map (pcs (l++ [⟨.slice xK key.length xk,.slice xV val.length xv,⟨key,ck,val,pg,ct⟩⟩])++ ·):=by
        rw [HP.out,HST.out,Option.map_map]
        congr 1
        funext z
        simp [pcs]
       have HP2:=Lib.hid hP2;clear hS4 hS5 hS6 hS7 hS9 e9 hown2 hfive hone hP2 ho5 hg5 hk5 y0 y1 y2 y3 y4;go_wp2_with fail;go_roundw
       case rel=>exact ⟨k+1,l++ [⟨.slice xK key.length xk,.slice xV val.length xv,⟨key,ck,val,pg,ct⟩⟩],t,by omega,by go_num,rfl,by omega,Lib.hid (by rw [List.length_append,HLK.out];rfl),fun y hy=>by rcases List.mem_append.1 hy with hy|hy;exact hR y hy;obtain rfl:=List.mem_singleton.1 hy;exact ⟨hr1,hr2,hr3⟩,HP2,HS9.out⟩
       case measure=>simp [intOf];omega
     ·obtain rfl:k=n:=by omega
      have hpl:nO b=some (pcs l):=by
       rw [HPF2.out,HP.out,Nat.sub_self];simp [kE]
      have hrd:=hS.openRd (u:= .slice B l.length cc) (by simp) (fun E hE=>by simp [hE]) hR;have hE:=zEA (kb:Int) (.slice B l.length cc) l (b.length:Int) wr hrd (by rw [HLK.out];omega);rw [HLK.out] at hE
      have HUN:Hid (∀kind l',jV b kind l'→kind=(kb:Int)∧l'=pcs l):=Lib.hid fun kind l' h=>by
       obtain ⟨h1,h2⟩:=HNO.out kind l' h;rw [hpl] at h1;injection h1 with h1;exact ⟨by rw [←h2,HKF.out],h1.symm⟩
      clear hpl hrd hown HP HPF2
      go_upto_region 21 with (first
       |(go_at_call 64;(with_reducible refine hE.mono ?_);rintro e w2 ⟨u,rfl,hou,hb3⟩)
       |fail)
      have hS2:=hS.below hb3;have s1:=yM hou.rd;have s2:=yM (hS2.rd (v:=w) (by simp) hv);have HPL:=Lib.hid (zEB (kind:=(kb:Int)) (l:=pcs l) (b:=b));have HS2:=Lib.hid hS2;clear hE hou hb3 hS hS2;generalize dW (kb:Int) (pcs l) (b.length:Int)=z at*;generalize dQ (kb:Int) (pcs l) (b.length:Int)=el at*
      by_cases hz:z=0
      ·subst hz;rcases Bool.eq_false_or_eq_true (el==b) with hq|hq
       ·have HY:Hid (jV b (kb:Int) (pcs l)):=Lib.hid (HPL.out.2 ⟨rfl,eq_of_beq hq⟩)
        have hqn:(el !=b)=false:=by rw [bne,hq];rfl
        go_wp2_with fail;refine bodyPost_ret (v:= .tuple #[.int .i64 (kb:Int),.slice B k cc,.int .i64 0]) ?_ rfl ?_
        ·simp [results,Tryz.results61,go_sem]
        ·exact .inl ⟨_,l,.slice B l.length cc,HY.out,by rw [HLK.out],hR,Sep.pack (D:=zP 43 5 (.slice B l.length cc) l.length (zF l)::zG l) HS2.out⟩
       ·have HN:Hid (∀kind l,¬jV b kind l):=Lib.hid fun kind l' h=>by
         obtain ⟨rfl,rfl⟩:=HUN.out kind l' h
         have:=(HPL.out.1 h).2
         rw [this] at hq;simp at hq
        have hqn:(el !=b)=true:=by rw [bne,hq];rfl
        go_wp2_with fail;refine bodyPost_ret (v:= .tuple #[.int .i64 0,.slice none 0 0,.int .i64 60]) ?_ rfl ?_
        ·simp [results,Tryz.results61,go_sem]
        ·exact .inr ⟨HN.out,rfl,HS2.out.belowOld (_v:=w) (by simp)⟩
      ·have HN:Hid (∀kind l,¬jV b kind l):=Lib.hid fun kind l' h=>by
        obtain ⟨rfl,rfl⟩:=HUN.out kind l' h;exact hz (HPL.out.1 h).1
       have hzn:(z !=0)=true:=by simp only [bne,beq_eq_false_iff_ne.2 hz];rfl
       clear hz s1 s2;go_wp2_with fail;refine bodyPost_ret (v:= .tuple #[.int .i64 0,.slice none 0 0,.int .i64 60]) ?_ rfl ?_
       ·simp [results,Tryz.results61,go_sem]
       ·exact .inr ⟨HN.out,rfl,HS2.out.belowOld (_v:=w) (by simp)⟩
end Go.Proofs.YtfcnkpofcekmgaaGreat
