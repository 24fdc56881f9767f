/- Texts joined. -/
import Derived.Test.YtfcnkpofcekmgaaGreatNQ28
set_option maxRecDepth 100000
set_option maxHeartbeats 64000000
namespace Go.Proofs.YtfcnkpofcekmgaaGreat
open Go.RowKit
def pV (kind:Int) (P:Nat) (l:List PC) (i:Nat):Int:=
 if zQ kind P (l.getD i bL)=false then 62
 else if 0<i∧¬yD (l.getD (i-1) bL).key (l.getD i bL).key<0 then 63
 else if i+1<l.length∧¬yD (l.getD i bL).key (l.getD (i+1) bL).key<0 then 63
 else if P<zS kind l then 61 else 0
theorem qD {l:List PC} {i:Nat} (h:i<l.length):l.getD i bL=l[i]:=by rw [List.getD_eq_getElem?_getD,List.getElem?_eq_getElem h];rfl
theorem tW {kind:Int} {P:Nat} {l:List PC} {i gone:Nat} {c:PC} (hi:i+gone≤l.length):pV kind P (zX l i gone c) i=k8 kind P l i gone c:=by
 have hti:(l.take i).length=i:=by rw [List.length_take];omega
 have hlen:(zX l i gone c).length=l.length-gone+1:=by unfold zX;simp only [List.length_append,List.length_cons,List.length_drop,hti];omega
 have e0:(zX l i gone c).getD i bL=c:=by
  unfold zX;rw [List.getD_eq_getElem?_getD,List.getElem?_append_right (by omega),hti,Nat.sub_self];rfl
 have e1:0<i→(zX l i gone c).getD (i-1) bL=l.getD (i-1) bL:=fun h=>by
  unfold zX;rw [List.getD_eq_getElem?_getD,List.getElem?_append_left (by omega),List.getElem?_take_of_lt (by omega),←List.getD_eq_getElem?_getD]
 have e2:(zX l i gone c).getD (i+1) bL=l.getD (i+gone) bL:=by
  unfold zX;rw [List.getD_eq_getElem?_getD,List.getElem?_append_right (by omega),hti,show i+1-i=0+1 by omega,List.getElem?_cons_succ,List.getElem?_drop,Nat.add_zero,←List.getD_eq_getElem?_getD]
 unfold pV k8;rw [e0,e2]
 by_cases hm:zQ kind P c=false
 ·rw [if_pos hm,if_pos hm]
 ·rw [if_neg hm,if_neg hm]
  have hL:(0<i∧¬yD ((zX l i gone c).getD (i-1) bL).key c.key<0)↔0≤jB l i c:=by
   unfold jB
   constructor
   ·rintro ⟨h1,h2⟩;rw [dif_pos ⟨h1,by omega⟩];rw [e1 h1,qD (by omega)] at h2;omega
   ·intro h
    split at h
    ·rename_i h3
     refine ⟨h3.1,?_⟩;rw [e1 h3.1,qD h3.2];omega
    ·omega
  have hR:(i+1<(zX l i gone c).length∧¬yD c.key (l.getD (i+gone) bL).key<0)↔0≤yY l (i+gone) c:=by
   unfold yY;rw [hlen]
   constructor
   ·rintro ⟨h1,h2⟩;rw [dif_pos (by omega)];rw [qD (by omega)] at h2;omega
   ·intro h
    split at h
    ·rename_i h3
     refine ⟨by omega,?_⟩;rw [qD h3];omega
    ·omega
  by_cases h1:0≤jB l i c
  ·rw [if_pos (hL.2 h1),if_pos (.inl h1)]
  ·rw [if_neg (fun h=>h1 (hL.1 h))]
   by_cases h2:0≤yY l (i+gone) c
   ·rw [if_pos (hR.2 h2),if_pos (.inr h2)]
   ·have hn:¬(0≤jB l i c∨0≤yY l (i+gone) c):=fun h=>h.elim h1 h2;rw [if_neg (fun h=>h2 (hR.1 h)),if_neg hn]
theorem dV {w:World} {r P waste:Nat} {kind:Int} {u pv:Value} (hbp:OBlk w r 118 [.int .i64 kind,.int .i64 (P:Int),u,pv,.int .i64 (waste:Int)]) (hkd:kind=2∨kind=3) (hP:P≤65536) (v:Value) (m:List CV) (hm:RdCs w v m) (i:Nat) (hi:i<m.length) (hn:m.length≤65536) (hbig:zQ kind P m[i].c=true→xT (pcs m)≤100000000000000):
 Calls Tryz.prog 149 #[.pointer (some ⟨r,0,none⟩),v,.int .i64 (i:Int)] w fun e w'=>e= .returned (.int .i64 (pV kind P (pcs m) i))∧Below w.heap.size w w':=by
 obtain ⟨V,vc,rfl,hml,hmc⟩:=hm.slice;obtain ⟨n,hnn⟩:∃n,m.length=n:=⟨_,rfl⟩;have HN:=Lib.hid hnn
 have hpi:(pcs m).getD i bL=m[i].c:=by rw [qD (by rw [zA];exact hi),zV hi]
 have hma:=tR kind P hkd hP m[i] w.drew ((hm.ok _ (List.getElem_mem hi)).below ((Below.refl w.heap.size w).drew));have H62:Hid (zQ kind P m[i].c=false→pV kind P (pcs m) i=62):=Lib.hid (fun h=>by unfold pV;rw [hpi,if_pos h])
 have H63a:Hid (∀k,i=k+1→zQ kind P m[i].c=true→∀hk:k<m.length,¬yD m[k].c.key m[i].c.key<0→pV kind P (pcs m) i=63):=Lib.hid (fun k hik h hk ho=>by
  unfold pV
  rw [hpi,if_neg (by rw [h];decide),if_pos ⟨by omega,by rw [show i-1=k by omega,qD (by rw [zA];exact hk),zV hk];exact ho⟩])
 have H63b:Hid (zQ kind P m[i].c=true→∀hk:i+1<m.length,¬yD m[i].c.key m[i+1].c.key<0→pV kind P (pcs m) i=63):=Lib.hid (fun h hk ho=>by
  unfold pV;rw [hpi,if_neg (by rw [h];decide)]
  split
  ·rfl
  ·rw [if_pos ⟨by rw [zA];exact hk,by rw [qD (by rw [zA];exact hk),zV hk];exact ho⟩])
 have H61:Hid (zQ kind P m[i].c=true→(∀k,i=k+1→∀hk:k<m.length,yD m[k].c.key m[i].c.key<0)→(∀hk:i+1<m.length,yD m[i].c.key m[i+1].c.key<0)→pV kind P (pcs m) i=if P<zS kind (pcs m) then 61 else 0):=Lib.hid (fun h h1 h2=>by
  unfold pV;rw [hpi,if_neg (by rw [h];decide),if_neg (fun e=> ?_),if_neg (fun e=> ?_)]
  ·obtain ⟨h3,h4⟩:=e
   have h5:i+1<m.length:=by rw [zA] at h3;exact h3
   rw [qD h3,zV h5] at h4;exact h4 (h2 h5)
  ·obtain ⟨h3,h4⟩:=e
   have h5:i-1<m.length:=by omega
   rw [qD (by rw [zA];exact h5),zV h5] at h4
   exact h4 (h1 (i-1) (by omega) h5))
 have HSZ:Hid (zQ kind P m[i].c=true→∀W,Below w.heap.size w W→Calls Tryz.prog 122 #[.int .i64 kind,.slice V m.length vc] W fun e w'=>e= .returned (.int .i64 (zS kind (pcs m):Nat))∧Below W.heap.size W w'):=Lib.hid (fun h W hW=>
  cK kind _ m W (hm.below hW) (by omega) (by have:=hbig h;omega) (rY (hbig h)))
 rw [hnn] at HSZ hml hi hn⊢
 have hrd:RdCs w (.slice V n vc) m:=by rw [←hnn];exact hm
 clear hm hpi hbig hnn;obtain ⟨ad,rfl,q0,q1,q2,q3,q4⟩:=hrd.at_ (i:=i) (by rw [HN.out];exact hi);have hxo:=hrd.ok _ (List.getElem_mem (show i<m.length by rw [HN.out];exact hi));have hkey:=hxo.k;obtain ⟨mB,hmB⟩:∃q,zQ kind P m[i].c=q:=⟨_,rfl⟩;rw [hmB] at hma H62 H63a H63b H61 HSZ;obtain ⟨x,hx⟩:∃x,m[i]'(by rw [HN.out];exact hi)=x:=⟨_,rfl⟩;simp only [hx] at hma H63a H63b H61 q0 q1 q2 q3 q4 hxo hkey;have HX:=Lib.hid hx;clear hmB hx;obtain ⟨KA,ka,VA,va,key,ck,val,pg,ct,rfl,-,-⟩:=CV.form hxo;obtain ⟨b0,b1,b2,b3,b4⟩:=zC hbp;simp only at H63a H63b H61 q0 q1 q2 q3 q4 hkey;unfold zJ at hma;simp only at hma;have hpl:=hbp.lt;generalize pV kind P (pcs m) i=Z at*
 have ij0:(0:Int)≤(i:Int):=by omega
 have ij1:(i:Int)<(n:Int):=by omega
 clear hxo;go_enter Tryz.func149,Tryz.ntmps149;go_upto_region 1 with (fail)
 go_cut [7] (fun s wx=>s= .bool mB∧Below w.heap.size w wx)
 case first=>
  go_region_held3 (fun w'=>w'.cell? (ad.add (i*5))=some (.slice KA key.length ka)∧w'.cell? ⟨(ad.add (i*5)).block,(ad.add (i*5)).off+1,none⟩=some (.int .i64 ck)∧w'.cell? ⟨(ad.add (i*5)).block,(ad.add (i*5)).off+2,none⟩=some (.slice VA val.length va)∧w'.cell? ⟨(ad.add (i*5)).block,(ad.add (i*5)).off+3,none⟩=some (.int .i64 pg)∧w'.cell? ⟨(ad.add (i*5)).block,(ad.add (i*5)).off+4,none⟩=some (.int .i64 ct)∧w'.cell? ⟨r,0,none⟩=some (.int .i64 kind)∧w'.cell? ⟨r,1,none⟩=some (.int .i64 (P:Int)))
   (first
    |exact ⟨q0,q1,q2,q3,q4,b0,b1⟩
    |exact ⟨hk2 q0,hk2 q1,hk2 q2,hk2 q3,hk2 q4,hk2 b0,hk2 b1⟩)
   (first
    |(go_at_call 120;refine hma.mono ?_;rintro e w2 ⟨rfl,hw2⟩;have hk2:∀{p:Addr} {y:Value},w.cell? p=some y→w2.cell? p=some y:=fun {p} {y} h=>(hw2.cell (World.block_lt_of_cell? w p h)).trans h)
    |fail)
  go_wp2_with fail;go_meet;exact ⟨rfl,(Below.refl _ _).drew.trans hw2⟩
 case rest=>
  obtain ⟨rfl,hw2⟩:=hcut;clear hma;have HW2:=Lib.hid hw2;have hrd2:=hrd.below hw2;have hbp2:=hbp.below hw2 hpl;have hke2:=hkey.below hw2 (Nat.le_refl _);have q0':=(hw2.cell (World.block_lt_of_cell? w _ q0)).trans q0;clear hw2 hrd hbp hkey q0 q1 q2 q3 q4 b0 b1 b2 b3 b4
  cases mB with
  |false=>
   have e:=H62.out rfl;subst e;go_wp2_with fail;go_ret;exact ⟨rfl,HW2.out⟩
  |true=>
   obtain ⟨w3,rfl⟩:∃w3,w3=wc:=⟨_,rfl⟩
   have hiz:i=0∨∃k,i=k+1:=by cases i;exact .inl rfl;exact .inr ⟨_,rfl⟩
   rcases hiz with hiz|⟨k,hik⟩
   ·have HA:Hid (∀k,i=k+1→∀hk:k<m.length,yD m[k].c.key key<0):=Lib.hid (fun k h=>by omega)
    have i0:¬(0:Int)<(i:Int):=by omega
    clear hiz;go_upto_region 8 with (fail);obtain ⟨w4,rfl⟩:∃w4,w4=w3:=⟨_,rfl⟩;have HB4:=HW2;clear HW2;rcases Nat.lt_or_ge (i+1) n with hnx|hnx
    ·have hnm:i+1<m.length:=by rw [HN.out];exact hnx
     obtain ⟨_,KB,kb,ea,p0,hkr⟩:=hrd2.key_atW hnm
     cases ea
     obtain ⟨kb2,hkb2⟩:∃q,m[i+1].c.key=q:=⟨_,rfl⟩;rw [hkb2] at p0 hkr;have HKB:=Lib.hid hkb2;clear hkb2
     have j0:(i:Int)+1<(n:Int):=by omega
     have j1:(0:Int)≤(i:Int)+1:=by omega
     have j3:((i:Int)+1).toNat=i+1:=by omega
     have j4:IntKind.i64.wrap ((i:Int)+1)=(i:Int)+1:=by rw [IntKind.wrap_i64];omega
     have hah:=g8 _ _ key kb2 w4.drew (hke2.below ((Below.refl w4.heap.size w4).drew) (Nat.le_refl _)) (hkr.below ((Below.refl w4.heap.size w4).drew) (Nat.le_refl _));go_upto_region 9 with (fail)
     go_cut [9] (fun s wx=>s= .bool (decide (yD key kb2<0))∧Below w4.heap.size w4 wx)
     case first=>
      go_region_held3 (fun w'=>w'.cell? (ad.add ((i+1)*5))=some (.slice KB kb2.length kb)∧w'.cell? (ad.add (i*5))=some (.slice KA key.length ka))
       (first
        |exact ⟨p0,q0'⟩
        |exact ⟨hk5 p0,hk5 q0'⟩)
       (first
        |(go_at_call 121;refine hah.mono ?_;rintro e w5 ⟨rfl,hw5⟩;have hk5:∀{p:Addr} {y:Value},w4.cell? p=some y→w5.cell? p=some y:=fun {p} {y} h=>(hw5.cell (World.block_lt_of_cell? w4 p h)).trans h)
        |fail)
      go_wp2_with fail;go_meet;exact ⟨rfl,(Below.refl _ _).drew.trans hw5⟩
     case rest=>
      obtain ⟨rfl,hw5⟩:=hcut;clear hah;have HB5:=Lib.hid (HB4.out.trans (hw5.mono HB4.out.size))
      by_cases ho:yD key kb2<0
      ·rw [decide_eq_true ho];have hz:=H61.out rfl HA.out (fun hk=>by rw [HKB.out];exact ho);have hsz:=HSZ.out rfl _ HB5.out;obtain ⟨b0,b1,b2,b3,b4⟩:=zC ((hbp2.below hw5 hbp2.lt).below (Below.refl _ _) (hbp2.below hw5 hbp2.lt).lt);have hbl5:=(hbp2.below hw5 hbp2.lt);clear ho p0 hkr hw5 hrd2 hke2 q0' j0 j1 j3 j4;obtain ⟨w5,rfl⟩:∃w5,w5=wc:=⟨_,rfl⟩;obtain ⟨sz,hszz⟩:∃sz,zS kind (pcs m)=sz:=⟨_,rfl⟩;rw [hszz] at hz hsz;clear hszz
       go_upto_region 13 with (first
        |(go_at_call 122;(with_reducible refine hsz.mono ?_);rintro e w6 ⟨rfl,hw6⟩)
        |fail)
       obtain ⟨d0,d1,d2,d3,d4⟩:=zC (hbl5.below hw6 hbl5.lt);have HB6:=Lib.hid (HB5.out.trans (hw6.mono HB5.out.size));clear hsz hw6 b0 b1 b2 b3 b4 hbl5
       by_cases hps:P<sz
       ·rw [if_pos hps] at hz;subst hz
        have i9:(P:Int)<(sz:Int):=by omega
        go_wp2_with fail;go_ret;exact ⟨rfl,HB6.out⟩
       ·rw [if_neg hps] at hz;subst hz
        have i9:¬(P:Int)<(sz:Int):=by omega
        go_wp2_with fail;go_ret;exact ⟨rfl,HB6.out⟩
      ·rw [decide_eq_false ho];have e:=H63b.out rfl hnm (by rw [HKB.out];exact ho);subst e;clear ho;go_wp2_with fail;go_ret;exact ⟨rfl,HB5.out⟩
    ·have hz:=H61.out rfl HA.out (fun hk=>by rw [HN.out] at hk;omega);have HB5:=HB4;have hsz:=HSZ.out rfl _ HB5.out;obtain ⟨b0,b1,b2,b3,b4⟩:=zC hbp2;have hbl5:=hbp2
     have j0:¬(i:Int)+1<(n:Int):=by omega
     have j4:IntKind.i64.wrap ((i:Int)+1)=(i:Int)+1:=by rw [IntKind.wrap_i64];omega
     clear hrd2 hke2 q0';obtain ⟨w5,rfl⟩:∃w5,w5=w4:=⟨_,rfl⟩;obtain ⟨sz,hszz⟩:∃sz,zS kind (pcs m)=sz:=⟨_,rfl⟩;rw [hszz] at hz hsz;clear hszz
     go_upto_region 13 with (first
      |(go_at_call 122;(with_reducible refine hsz.mono ?_);rintro e w6 ⟨rfl,hw6⟩)
      |fail)
     obtain ⟨d0,d1,d2,d3,d4⟩:=zC (hbl5.below hw6 hbl5.lt);have HB6:=Lib.hid (HB5.out.trans (hw6.mono HB5.out.size));clear hsz hw6 b0 b1 b2 b3 b4 hbl5
     by_cases hps:P<sz
     ·rw [if_pos hps] at hz;subst hz
      have i9:(P:Int)<(sz:Int):=by omega
      go_wp2_with fail;go_ret;exact ⟨rfl,HB6.out⟩
     ·rw [if_neg hps] at hz;subst hz
      have i9:¬(P:Int)<(sz:Int):=by omega
      go_wp2_with fail;go_ret;exact ⟨rfl,HB6.out⟩
   ·have hkm:k<m.length:=by rw [HN.out];omega
    obtain ⟨_,KB,kb,ea,p0,hkr⟩:=hrd2.key_atW hkm
    cases ea
    have HKX:Hid (∀hk:k<m.length,m[k].c.key=m[k].c.key):=Lib.hid (fun _=>rfl);obtain ⟨kb2,hkb2⟩:∃q,m[k].c.key=q:=⟨_,rfl⟩;rw [hkb2] at p0 hkr;have HKB:=Lib.hid hkb2;clear hkb2 HKX
    have i0:(0:Int)<(i:Int):=by omega
    have j1:(0:Int)≤(i:Int)-1:=by omega
    have j2:(i:Int)-1<(n:Int):=by omega
    have j3:((i:Int)-1).toNat=k:=by omega
    have j4:IntKind.i64.wrap ((i:Int)-1)=(i:Int)-1:=by rw [IntKind.wrap_i64];omega
    have j5:(1:Int)≤(i:Int):=by omega
    have j6:i-1=k:=by omega
    have hah:=g8 _ _ kb2 key w3.drew (hkr.below ((Below.refl w3.heap.size w3).drew) (Nat.le_refl _)) (hke2.below ((Below.refl w3.heap.size w3).drew) (Nat.le_refl _));have HIK:=Lib.hid hik;clear hik;go_upto_region 5 with (fail)
    go_cut [8] (fun s wx=>s= .bool (decide (yD kb2 key<0))∧Below w3.heap.size w3 wx)
    case first=>
     go_region_held3 (fun w'=>w'.cell? (ad.add (k*5))=some (.slice KB kb2.length kb)∧w'.cell? (ad.add (i*5))=some (.slice KA key.length ka))
      (first
       |exact ⟨p0,q0'⟩
       |exact ⟨hk4 p0,hk4 q0'⟩)
      (first
       |(go_at_call 121;refine hah.mono ?_;rintro e w4 ⟨rfl,hw4⟩;have hk4:∀{p:Addr} {y:Value},w3.cell? p=some y→w4.cell? p=some y:=fun {p} {y} h=>(hw4.cell (World.block_lt_of_cell? w3 p h)).trans h)
       |fail)
     go_wp2_with fail;go_meet;exact ⟨rfl,(Below.refl _ _).drew.trans hw4⟩
    case rest=>
     obtain ⟨rfl,hw4⟩:=hcut;clear hah;have HB4:=Lib.hid (HW2.out.trans (hw4.mono HW2.out.size))
     by_cases ho:yD kb2 key<0
     ·rw [decide_eq_true ho]
      have HA:Hid (∀k,i=k+1→∀hk:k<m.length,yD m[k].c.key key<0):=Lib.hid (fun k' h hk=>by
       have:k'=k:=by have:=HIK.out;omega
       subst this
       rw [HKB.out];exact ho)
      replace hrd2:=hrd2.below hw4;replace hbp2:=hbp2.below hw4 hbp2.lt;replace hke2:=hke2.below hw4 (Nat.le_refl _);replace q0':=(hw4.cell (World.block_lt_of_cell? w3 _ q0')).trans q0';clear ho p0 hkr hw4 HW2 j1 j2 j3 j4 j5 j6;obtain ⟨w4,rfl⟩:∃w4,w4=wc:=⟨_,rfl⟩;go_upto_region 8 with (fail);rcases Nat.lt_or_ge (i+1) n with hnx|hnx
      ·have hnm:i+1<m.length:=by rw [HN.out];exact hnx
       obtain ⟨_,KB,kb,ea,p0,hkr⟩:=hrd2.key_atW hnm
       cases ea
       obtain ⟨kb2,hkb2⟩:∃q,m[i+1].c.key=q:=⟨_,rfl⟩;rw [hkb2] at p0 hkr;have HKB:=Lib.hid hkb2;clear hkb2
       have j0:(i:Int)+1<(n:Int):=by omega
       have j1:(0:Int)≤(i:Int)+1:=by omega
       have j3:((i:Int)+1).toNat=i+1:=by omega
       have j4:IntKind.i64.wrap ((i:Int)+1)=(i:Int)+1:=by rw [IntKind.wrap_i64];omega
       have hah:=g8 _ _ key kb2 w4.drew (hke2.below ((Below.refl w4.heap.size w4).drew) (Nat.le_refl _)) (hkr.below ((Below.refl w4.heap.size w4).drew) (Nat.le_refl _));go_upto_region 9 with (fail)
       go_cut [9] (fun s wx=>s= .bool (decide (yD key kb2<0))∧Below w4.heap.size w4 wx)
       case first=>
        go_region_held3 (fun w'=>w'.cell? (ad.add ((i+1)*5))=some (.slice KB kb2.length kb)∧w'.cell? (ad.add (i*5))=some (.slice KA key.length ka))
         (first
          |exact ⟨p0,q0'⟩
          |exact ⟨hk5 p0,hk5 q0'⟩)
         (first
          |(go_at_call 121;refine hah.mono ?_;rintro e w5 ⟨rfl,hw5⟩;have hk5:∀{p:Addr} {y:Value},w4.cell? p=some y→w5.cell? p=some y:=fun {p} {y} h=>(hw5.cell (World.block_lt_of_cell? w4 p h)).trans h)
          |fail)
        go_wp2_with fail;go_meet;exact ⟨rfl,(Below.refl _ _).drew.trans hw5⟩
       case rest=>
        obtain ⟨rfl,hw5⟩:=hcut;clear hah;have HB5:=Lib.hid (HB4.out.trans (hw5.mono HB4.out.size))
        by_cases ho:yD key kb2<0
        ·rw [decide_eq_true ho];have hz:=H61.out rfl HA.out (fun hk=>by rw [HKB.out];exact ho);have hsz:=HSZ.out rfl _ HB5.out;obtain ⟨b0,b1,b2,b3,b4⟩:=zC ((hbp2.below hw5 hbp2.lt).below (Below.refl _ _) (hbp2.below hw5 hbp2.lt).lt);have hbl5:=(hbp2.below hw5 hbp2.lt);clear ho p0 hkr hw5 hrd2 hke2 q0' j0 j1 j3 j4;obtain ⟨w5,rfl⟩:∃w5,w5=wc:=⟨_,rfl⟩;obtain ⟨sz,hszz⟩:∃sz,zS kind (pcs m)=sz:=⟨_,rfl⟩;rw [hszz] at hz hsz;clear hszz
         go_upto_region 13 with (first
          |(go_at_call 122;(with_reducible refine hsz.mono ?_);rintro e w6 ⟨rfl,hw6⟩)
          |fail)
         obtain ⟨d0,d1,d2,d3,d4⟩:=zC (hbl5.below hw6 hbl5.lt);have HB6:=Lib.hid (HB5.out.trans (hw6.mono HB5.out.size));clear hsz hw6 b0 b1 b2 b3 b4 hbl5
         by_cases hps:P<sz
         ·rw [if_pos hps] at hz;subst hz
          have i9:(P:Int)<(sz:Int):=by omega
          go_wp2_with fail;go_ret;exact ⟨rfl,HB6.out⟩
         ·rw [if_neg hps] at hz;subst hz
          have i9:¬(P:Int)<(sz:Int):=by omega
          go_wp2_with fail;go_ret;exact ⟨rfl,HB6.out⟩
        ·rw [decide_eq_false ho];have e:=H63b.out rfl hnm (by rw [HKB.out];exact ho);subst e;clear ho;go_wp2_with fail;go_ret;exact ⟨rfl,HB5.out⟩
      ·have hz:=H61.out rfl HA.out (fun hk=>by rw [HN.out] at hk;omega);have HB5:=HB4;have hsz:=HSZ.out rfl _ HB5.out;obtain ⟨b0,b1,b2,b3,b4⟩:=zC hbp2;have hbl5:=hbp2
       have j0:¬(i:Int)+1<(n:Int):=by omega
       have j4:IntKind.i64.wrap ((i:Int)+1)=(i:Int)+1:=by rw [IntKind.wrap_i64];omega
       clear hrd2 hke2 q0';obtain ⟨w5,rfl⟩:∃w5,w5=w4:=⟨_,rfl⟩;obtain ⟨sz,hszz⟩:∃sz,zS kind (pcs m)=sz:=⟨_,rfl⟩;rw [hszz] at hz hsz;clear hszz
       go_upto_region 13 with (first
        |(go_at_call 122;(with_reducible refine hsz.mono ?_);rintro e w6 ⟨rfl,hw6⟩)
        |fail)
       obtain ⟨d0,d1,d2,d3,d4⟩:=zC (hbl5.below hw6 hbl5.lt);have HB6:=Lib.hid (HB5.out.trans (hw6.mono HB5.out.size));clear hsz hw6 b0 b1 b2 b3 b4 hbl5
       by_cases hps:P<sz
       ·rw [if_pos hps] at hz;subst hz
        have i9:(P:Int)<(sz:Int):=by omega
        go_wp2_with fail;go_ret;exact ⟨rfl,HB6.out⟩
       ·rw [if_neg hps] at hz;subst hz
        have i9:¬(P:Int)<(sz:Int):=by omega
        go_wp2_with fail;go_ret;exact ⟨rfl,HB6.out⟩
     ·rw [decide_eq_false ho];have e:=H63a.out k HIK.out rfl hkm (by rw [HKB.out];exact ho);subst e;clear ho;go_wp2_with fail;go_ret;exact ⟨rfl,HB4.out⟩
def pcR (c:PC) (r:List UInt8):List UInt8:=u8I c.kind::(zR r.length++(r++kvF c))
theorem uA (kind:Int) (i:Nat) (v:Value) (key:List UInt8) (pre:Nat) (w:World) (hk:RdB w v key) (hn:¬(kind=3∧i=0)) (hp:key.length<pre):
 Calls Tryz.prog 162 #[.int .i64 kind,.int .i64 (i:Int),v,.int .i64 (pre:Int)] w fun e w'=>(∃A c,e= .returned (.slice A key.length c)∧RdB w (.slice A key.length c) key)∧w=w':=by
 obtain ⟨A,ca,rfl,hka⟩:=hk.form
 have i1:(key.length:Int)<(pre:Int):=by omega
 have HK:=Lib.hid hk
 by_cases h3:kind=3
 ·have e1:(kind==3)=true:=by simp [h3]
  have e2:((i:Int)==0)=false:=beq_eq_false_iff_ne.2 (by omega);clear h3 hn hp hk;go_enter Tryz.func162,Tryz.ntmps162;go_wp2_with fail;go_ret;exact ⟨⟨_,_,rfl,HK.out⟩,rfl⟩
 ·have e1:(kind==3)=false:=beq_eq_false_iff_ne.2 h3;clear h3 hn hp hk;go_enter Tryz.func162,Tryz.ntmps162;go_wp2_with fail;go_ret;exact ⟨⟨_,_,rfl,HK.out⟩,rfl⟩
theorem uF (kind:Int) (i:Nat) (v:Value) (key:List UInt8) (pre:Nat):∃r:List UInt8,r.length≤key.length∧∀W,RdB W v key→Calls Tryz.prog 162 #[.int .i64 kind,.int .i64 (i:Int),v,.int .i64 (pre:Int)] W fun e w'=>(∃A c,e= .returned (.slice A r.length c)∧RdB W (.slice A r.length c) r)∧W=w':=by
 by_cases h:¬(kind=3∧i=0)→pre≤key.length
 ·exact ⟨yI kind i key pre,by unfold yI;split<;>simp,fun W hW=>rS kind i v key pre W hW h⟩
 ·have h1:¬(kind=3∧i=0)∧¬pre≤key.length:=⟨fun e=>h (fun h2=>absurd e h2),fun e=>h (fun _=>e)⟩;exact ⟨key,Nat.le_refl _,fun W hW=>uA kind i v key pre W hW h1.1 (by omega)⟩
theorem uH (kind:Int) (i:Nat) (x:CV) (pre:Nat) (w:World) (hx:x.ok w) (r:List UInt8) (hlr:r.length≤x.c.key.length)
 (hrest:∀W,RdB W x.kv x.c.key→Calls Tryz.prog 162 #[.int .i64 kind,.int .i64 (i:Int),x.kv,.int .i64 (pre:Int)] W fun e w'=>(∃A c,e= .returned (.slice A r.length c)∧RdB W (.slice A r.length c) r)∧W=w') (hb:x.c.key.length+x.c.val.length≤100000000000000):
 Calls Tryz.prog 125 #[.int .i64 kind,.int .i64 (i:Int),zJ x,.int .i64 (pre:Int)] w (fN w (pcR x.c r)):=by
 obtain ⟨A,ca,B,cb,key,ck,val,pg,ct,rfl,_,_⟩:=CV.form hx;have hxk:RdB w (.slice A key.length ca) key:=hx.k;have hxv:RdB w (.slice B val.length cb) val:=hx.v;have hA:Below w.heap.size w (w.alloc (.cells #[.slice A key.length ca,.int .i64 ck,.slice B val.length cb,.int .i64 pg,.int .i64 ct] 43)):=(Below.refl _ _).alloc (Nat.le_refl _) _;obtain ⟨c0,c1,c2,c3,c4⟩:=zC (OBlk.new' w 43 [.slice A key.length ca,.int .i64 ck,.slice B val.length cb,.int .i64 pg,.int .i64 ct]);have hk1:=hxk.alloc (.cells #[.slice A key.length ca,.int .i64 ck,.slice B val.length cb,.int .i64 pg,.int .i64 ct] 43);have hv1:=hxv.alloc (.cells #[.slice A key.length ca,.int .i64 ck,.slice B val.length cb,.int .i64 pg,.int .i64 ct] 43);unfold zJ;simp only at hrest hb hlr⊢
 have hkv1:ck=1→pcR ⟨key,ck,val,pg,ct⟩ r=(([u8I ck]++zR (r).length)++r)++zR val.length++val:=fun h=>by unfold pcR kvF;rw [if_pos h];simp
 have hkv2:ck≠1→pcR ⟨key,ck,val,pg,ct⟩ r=(([u8I ck]++zR (r).length)++r)++zR (xZ pg)++zR (xZ ct):=fun h=>by unfold pcR kvF;rw [if_neg h];simp
 have hun:(zR (r).length).length≤10:=yF (by omega);have hvn:(zR val.length).length≤10:=yF (by omega);have hpn:(zR (xZ pg)).length≤10:=yF (xW pg);have hcn:(zR (xZ ct)).length≤10:=yF (xW ct);generalize pcR ⟨key,ck,val,pg,ct⟩ r=R at*;have HK1:=Lib.hid hkv1;have HK2:=Lib.hid hkv2;clear hx hkv1 hkv2 hxk hxv;go_enter Tryz.func125,Tryz.ntmps125;go_upto_region 1 with (fail);generalize w.alloc (.cells #[.slice A key.length ca,.int .i64 ck,.slice B val.length cb,.int .i64 pg,.int .i64 ct] 43)=w0 at*;have hr0:=hrest w0 hk1;clear hrest;go_upto_region 2 with (first|(go_at_call 162;refine hr0.mono ?_;rintro e w1 ⟨⟨A9,c9,rfl,hrd⟩,rfl⟩)|fail);have hkw:=r5 ck;have hS1:=((Sep.start w0).alloc 5 (bvs [u8I ck])).weak (E':=zB (.slice (some ⟨w0.heap.size,0,none⟩) 1 1) [u8I ck]) (fun h=>OBlk.owB' (m:= [u8I ck]) h (Nat.zero_le _) (by simp [maxLen])) (fun g hg=>(Option.some.inj hg).symm);have HS1:=Lib.hid hS1;clear hS1 hr0;go_upto_region 3 with (fail);have hS1:Sep w0 (w0.alloc (.cells #[.int .u8 ((u8I ck).toNat:Int)] 5)) [zB (.slice (some ⟨w0.heap.size,0,none⟩) 1 1) [u8I ck],yK w0]:=HS1.out;generalize w0.alloc (.cells #[.int .u8 ((u8I ck).toNat:Int)] 5)=w1 at*;have hwn:IntKind.u64.wrap (r.length:Int)=(r.length:Int):=IntWalk.u64_in _ (by omega);clear HS1 hkw;go_upto_region 4 with (first|(go_at_call 163;refine (kX r.length (by omega) _).mono ?_;rintro e w2 ⟨v2,rfl,ho2,hb2⟩)|fail)
 have hS2:Sep w0 w2 [zB (.slice (some ⟨w0.heap.size,0,none⟩) 1 1) [u8I ck],zB v2 (zR r.length),yK w0]:=(hS1.bytes hb2 ho2 (Nat.le_refl _)).sw1;clear hS1 ho2 hb2 hwn;have ha3:=yL (u:=v2) hS2 (RdIn.bytes (l:=zR r.length) (by simp)) (by simp;omega);go_upto_region 5 with (first|(go_at_call 124;refine ha3.mono ?_;rintro e w3 ⟨v3,rfl,hS3⟩)|fail);have hS3:=(hS3.sw1).tail;clear hS2;have ha4:=yL (u:= .slice A9 r.length c9) hS3 (RdIn.old hrd (by simp)) (by simp;omega);go_upto_region 6 with (first|(go_at_call 124;refine ha4.mono ?_;rintro e w4 ⟨v4,rfl,hS4⟩)|fail)
 have hlen4:([u8I ck]++zR r.length++r).length≤11+r.length:=by simp;omega
 generalize hL4: [u8I ck]++zR r.length++r=L4 at*;clear hS3 hL4 hrd;have q1:=(hS4.old_cell (v:=w0) (by simp) ⟨w.heap.size,1,none⟩ (World.block_lt_of_cell? w0 _ c1)).trans c1;have q2:=(hS4.old_cell (v:=w0) (by simp) ⟨w.heap.size,2,none⟩ (World.block_lt_of_cell? w0 _ c2)).trans c2;have q3:=(hS4.old_cell (v:=w0) (by simp) ⟨w.heap.size,3,none⟩ (World.block_lt_of_cell? w0 _ c3)).trans c3;have q4:=(hS4.old_cell (v:=w0) (by simp) ⟨w.heap.size,4,none⟩ (World.block_lt_of_cell? w0 _ c4)).trans c4
 by_cases h1:ck=1
 ·have e1:(ck==1)=true:=beq_iff_eq.2 h1;have HR:=Lib.hid (HK1.out h1);have hwn:IntKind.u64.wrap (val.length:Int)=(val.length:Int):=IntWalk.u64_in _ (by omega);clear h1 HK1 HK2;go_upto_region 8 with (first|(go_at_call 163;refine (kX val.length (by omega) _).mono ?_;rintro e w5 ⟨v5,rfl,ho5,hb5⟩)|fail);have hS5:Sep w0 w5 [zB v4 L4,zB v5 (zR val.length),yK w0]:=(hS4.bytes hb5 ho5 (Nat.le_refl _)).sw1;clear hS4 ho5 hb5 hwn;have ha6:=yL (u:=v5) hS5 (RdIn.bytes (l:=zR val.length) (by simp)) (by omega);go_upto_region 9 with (first|(go_at_call 124;refine ha6.mono ?_;rintro e w6 ⟨v6,rfl,hS6⟩)|fail);have hS6:=(hS6.sw1).tail;have q2':=(hS6.old_cell (v:=w0) (by simp) ⟨w.heap.size,2,none⟩ (World.block_lt_of_cell? w0 _ c2)).trans c2;clear hS5 q1 q2 q3 q4;have ha7:=yL (u:= .slice B val.length cb) hS6 (RdIn.old hv1 (by simp)) (by simp;omega);go_wp2_with (first|(go_at_call 124;refine ha7.mono ?_;rintro e w7 ⟨v7,rfl,hS7⟩)|fail);go_ret;have hB:=hS7.belowOld (_v:=w0) (by simp);have ho:=hS7.ownOld (by simp);rw [HR.out];exact ⟨v7,rfl,OwB.low ho hA.size,hA.trans (hB.mono hA.size)⟩
 ·have e1:(ck==1)=false:=beq_eq_false_iff_ne.2 h1;have HR:=Lib.hid (HK2.out h1);have hpw:=kZ pg;have hcw:=kZ ct;have hpl:=xW pg;have hcl:=xW ct;generalize xZ pg=pn at*;generalize xZ ct=cn at*;clear h1 HK1 HK2;go_upto_region 11 with (first|(go_at_call 163;refine (kX pn hpl _).mono ?_;rintro e w5 ⟨v5,rfl,ho5,hb5⟩)|fail);have hS5:Sep w0 w5 [zB v4 L4,zB v5 (zR pn),yK w0]:=(hS4.bytes hb5 ho5 (Nat.le_refl _)).sw1;clear hS4 ho5 hb5 hpw;have ha6:=yL (u:=v5) hS5 (RdIn.bytes (l:=zR pn) (by simp)) (by omega);go_upto_region 12 with (first|(go_at_call 124;refine ha6.mono ?_;rintro e w6 ⟨v6,rfl,hS6⟩)|fail);have hS6:=(hS6.sw1).tail;have q4':=(hS6.old_cell (v:=w0) (by simp) ⟨w.heap.size,4,none⟩ (World.block_lt_of_cell? w0 _ c4)).trans c4;clear hS5 q1 q2 q3 q4;go_upto_region 13 with (first|(go_at_call 163;refine (kX cn hcl _).mono ?_;rintro e w7 ⟨v7,rfl,ho7,hb7⟩)|fail);have hS7:Sep w0 w7 [zB v6 (L4++zR pn),zB v7 (zR cn),yK w0]:=(hS6.bytes hb7 ho7 (Nat.le_refl _)).sw1;clear hS6 ho7 hb7 hcw;have ha8:=yL (u:=v7) hS7 (RdIn.bytes (l:=zR cn) (by simp)) (by simp;omega);go_wp2_with (first|(go_at_call 124;refine ha8.mono ?_;rintro e w8 ⟨v8,rfl,hS8⟩)|fail);go_ret;have hS8:=(hS8.sw1).tail;have hB:=hS8.belowOld (_v:=w0) (by simp);have ho:=hS8.ownOld (by simp);rw [HR.out];exact ⟨v8,rfl,OwB.low ho hA.size,hA.trans (hB.mono hA.size)⟩
theorem zHG {c:PC} {r:List UInt8} (hr:r.length≤c.key.length) (hb:c.key.length+c.val.length≤100000000000000):(pcR c r).length+2≤33+c.key.length+c.val.length:=by
 have u1:(zR r.length).length≤10:=yF (by omega);have u2:(zR c.val.length).length≤10:=yF (by omega);have u3:(zR (xZ c.page)).length≤10:=yF (xW _);have u4:(zR (xZ c.count)).length≤10:=yF (xW _);unfold pcR kvF
 split<;>(simp only [List.length_cons,List.length_append];omega)
theorem wW (kind:Int) (v:Value) (l:List CV) (pre:Nat) (w:World) (hl:RdCs w v l) (hb:xT (pcs l)≤100000000000000) (hpr:pre≤65536):
 Calls Tryz.prog 155 #[.int .i64 kind,v,.int .i64 (pre:Int)] w fun e w'=>∃n:Nat,n≤1000000000000000∧e= .returned (.int .i64 (n:Int))∧Below w.heap.size w w':=by
 obtain ⟨A,c,rfl,hm,hc⟩:=hl.slice;have HCB:=Lib.hid (rY hb);have HBG:=Lib.hid hb;clear hb;go_enter Tryz.func155,Tryz.ntmps155;go_wp2_with fail
 go_loopw [7,8,9] (fun n i _ wr=>∃k z:Nat,k≤l.length∧i= .int .i64 (k:Int)∧n= .int .i64 (z:Int)∧Hid (z≤10+pre+xT (pcs (l.take k)))∧Below w.heap.size w wr) (fun _ i _ _=>l.length-(intOf i).toNat)
 case atStart=>exact ⟨0,10+pre,Nat.zero_le _,rfl,by go_num,Lib.hid (by simp [pcs,xT]),Below.refl _ _⟩
 case round=>
  obtain ⟨k,z,hk,rfl,rfl,HZ,hB⟩:=hrel
  have hzb:z≤1000000000000000:=by
   have h1:=HZ.out;have h2:=nN (pcs l) k;rw [fM] at h1;have h3:=HBG.out;omega
  by_cases hlt:k<l.length
  ·have ik:(k:Int)<(l.length:Int):=by omega
   have hkv:l[k].c.key.length+l[k].c.val.length≤100000000000000:=HCB.out _ (List.getElem_mem hlt)
   have hst:xT (pcs (l.take (k+1)))=xT (pcs (l.take k))+(33+l[k].c.key.length+l[k].c.val.length):=by
    rw [List.take_succ_eq_append_getElem hlt,vJ,qP];rfl
   obtain ⟨ad,rfl,c0,c1,c2,c3,c4⟩:=(hl.below hB).at_ hlt;have hx:=(hl.below hB).ok _ (List.getElem_mem hlt);generalize l[k]=x at*;obtain ⟨A1,a1,B1,b1,key,ck,val,pg,ct,rfl,_,_⟩:=CV.form hx;simp only at hkv hst c0 c1 c2 c3 c4;obtain ⟨r,hlr,hrs⟩:=uF kind k (.slice A1 key.length a1) key pre;have hlo:=uH kind k ⟨.slice A1 key.length a1,.slice B1 val.length b1,⟨key,ck,val,pg,ct⟩⟩ pre wr hx r hlr hrs hkv;have hbg:=zHG (c:=⟨key,ck,val,pg,ct⟩) (r:=r) hlr hkv;unfold zJ at hlo;simp only at hlo hbg;have HST:=Lib.hid hst;generalize pcR ⟨key,ck,val,pg,ct⟩ r=lo at*;have HZ2:Hid (z+(2+lo.length)≤10+pre+xT (pcs (l.take (k+1)))):=Lib.hid (by rw [HST.out];have:=HZ.out;omega)
   have hlb:lo.length≤200000000000000:=by omega
   clear hx hkv hst hrs hlr hbg;go_upto_region 6 with (first|(go_at_call 125;refine hlo.mono ?_;rintro e w2 ⟨v2,rfl,ho2,hb2⟩)|fail);have hB2:=hB.trans (hb2.mono hB.size);obtain ⟨A2,a2,rfl⟩:=Own.slice ho2;clear ho2 hlo;go_wp2_with fail;go_roundw
   case rel=>exact ⟨k+1,z+(2+lo.length),by omega,by go_num,by go_num,HZ2,hB2⟩
   case measure=>simp [intOf];omega
  ·obtain rfl:k=l.length:=by omega
   go_wp2_with fail;go_ret;exact ⟨z,hzb,rfl,hB⟩
section
variable {w0 w w':World} {L:List Ent} {r P waste:Nat} {kind:Int} {u pv:Value} {l:List CV} {pre:List UInt8}
theorem uD (h:RKAt w r kind P u pv waste l pre) (hb:xT (pcs l)≤100000000000000) (hpl:pre.length≤65536):
 Calls Tryz.prog 105 #[.pointer (some ⟨r,0,none⟩)] w fun e w'=>∃n:Nat,n≤1000000000000000∧e= .returned (.int .i64 (n:Int))∧Below w.heap.size w w':=by
 obtain ⟨A,c,rfl,hm,hc⟩:=h.rd.slice;obtain ⟨PA,pc,rfl⟩:=Own.slice h.pre;obtain ⟨b0,b1,b2,b3,b4⟩:=zC h.blk;have hblk:=h.blk
 have hE:Calls Tryz.prog 155 #[.int .i64 kind,.slice A l.length c,.int .i64 (pre.length:Int)] w.drew fun e w'=>∃n:Nat,n≤1000000000000000∧e= .returned (.int .i64 (n:Int))∧Below w.heap.size w w':=by
  have hbd:=(Below.refl w.heap.size w).drew;refine (wW kind _ l pre.length w.drew (h.rd.below hbd) hb hpl).mono ?_;rintro e w' ⟨n,hn,rfl,hw⟩;exact ⟨n,hn,rfl,hbd.trans (hw.mono hbd.size)⟩
 have HE:=Lib.hid hE;clear hE hb hpl h hm hc;go_enter Tryz.func105,Tryz.ntmps105;go_upto_region 1 with (fail)
 go_region_held3 (fun w'=>w'.cell? ⟨r,0,none⟩=some (.int .i64 kind)∧w'.cell? ⟨r,2,none⟩=some (.slice A l.length c)∧w'.cell? ⟨r,3,none⟩=some (.slice PA pre.length pc))
  (first|exact ⟨b0,b2,b3⟩|(have hx:=zC (hblk.below hw2 hblk.lt);exact ⟨hx.1,hx.2.2.1,hx.2.2.2.1⟩))
  (first
   |(go_at_call 155;refine HE.out.mono ?_;rintro e w2 ⟨z,hz,rfl,hw2⟩)
   |fail)
 go_wp2_with fail;go_ret;exact ⟨z,hz,rfl,hw2⟩
theorem pI (h:RKAt w r kind P u pv waste l pre) (hb:xT (pcs l)≤100000000000000) (hpl:pre.length≤65536) (_hP:P≤65536) (hwa:waste≤1000000000):
 Calls Tryz.prog 151 #[.pointer (some ⟨r,0,none⟩)] w fun e w'=>∃q:Bool,e= .returned (.bool q)∧Below w.heap.size w w':=by
 have hU:=uD h hb hpl;have hbp:=h.blk;have hpz:=hbp.lt;clear h hb hpl;go_enter Tryz.func151,Tryz.ntmps151
 go_upto_region 2 with (first
  |(go_at_call 105;(with_reducible refine hU.mono ?_);rintro e w2 ⟨z,hz,rfl,hw2⟩)
  |fail)
 have e1:IntKind.i64.wrap ((z:Int)+(waste:Int))=(z:Int)+(waste:Int):=by rw [IntKind.wrap_i64];omega
 obtain ⟨b0,b1,b2,b3,b4⟩:=zC (hbp.below hw2 hpz);go_quiet (fail);go_wp2_with fail;go_ret;exact ⟨_,rfl,zK hw2 _⟩
end
theorem tM {kind:Int} {P:Nat} {s:KP} (h:KInv kind P s) (hP:P≤65536) {i gone:Nat} {c:PC} (hm:zQ kind P c=true):xT (zX s.l i gone c)≤10000000000:=by
 have h1:=gD (P:=P) hP (l:=zX s.l i gone c) (fun d hd=>by
  rcases r7 hd with rfl|hd
  ·exact xY hm
  ·exact h.ok d hd)
 have h2:=h.len hP
 have h3:(zX s.l i gone c).length≤s.l.length+1:=by
  unfold zX;simp only [List.length_append,List.length_cons,List.length_take,List.length_drop];omega
 omega
theorem Sep.push2c {w0 w:World} {a b c d e:Ent} {T L:List Ent} (h:Sep w0 w (a::b::c::d::e::(T++L))):Sep w0 w (a::b::c::(T++d::e::L)):=h.perm ((List.perm_append_comm_assoc [d,e] T L).cons _|>.cons _|>.cons _)
theorem p8 {w0 w:World} {L:List Ent} {r P waste:Nat} {kind:Int} {v pv:Value} {m:List CV} {pre:List UInt8} (h:Sep w0 w (rkB r kind P v pv waste::csE v m::zB pv pre::L)) (hr:RngC m):RKAt w r kind P v pv waste m pre:=
 ⟨h.head,qA h.tail.head hr,h.tail.tail.head⟩
theorem t0 {l:List CV} {k gone:Nat} {y:CV} (hk:k+gone≤l.length) (h:k<(l.take k++y::l.drop (k+gone)).length):(l.take k++y::l.drop (k+gone))[k]=y:=by
 have ht:(l.take k).length=k:=by rw [List.length_take];omega
 rw [List.getElem_append_right (by omega)];simp [ht]
theorem RdCs.with8 {w0 w:World} {L:List Ent} {l:List CV} {y:CV} {v u pv:Value} {pre:List UInt8} {r P waste k gone n:Nat} {kind:Int} (h:Sep w0 w (zB y.kv y.c.key::zB y.vv y.c.val::zP 43 5 v (l.take k++y::l.drop (k+gone)).length (zF (l.take k++y::l.drop (k+gone)))::rkB r kind P u pv waste::zP 43 5 u n (zF l)::zB pv pre::(zG l++L)))
 (hn:l.length=n) (hr:RngC l) (hy:yE y.c.kind∧yE y.c.page∧yE y.c.count):RdCs w v (l.take k++y::l.drop (k+gone)):=by
 subst hn;have hrdl:=h.openRd (u:=u) (l:=l) (by simp) (fun E hE=>by simp [hE]) hr;refine ⟨(h.of_mem (E:=zP 43 5 v (l.take k++y::l.drop (k+gone)).length (zF (l.take k++y::l.drop (k+gone)))) (by simp):Own w 0 43 5 v (l.take k++y::l.drop (k+gone)).length (zF (l.take k++y::l.drop (k+gone)))).rd,fun z hz=> ?_⟩;rcases List.mem_append.1 hz with hz|hz
 ·exact hrdl.ok z (List.mem_of_mem_take hz)
 ·rcases List.mem_cons.1 hz with rfl|hz
  ·exact ⟨OwB.rd h.head,OwB.rd h.tail.head,hy.1,hy.2.1,hy.2.2⟩
  ·exact hrdl.ok z (List.mem_of_mem_drop hz)
theorem nG {kind:Int} {P:Nat} {s:KP} {i:Int} {gone:Nat} {c:PC} (h:yR kind P s.l i gone c≠0):jC kind P s i gone c=s:=by unfold jC;rw [if_neg h]
theorem wO {kind:Int} {P:Nat} {s:KP} {k gone:Nat} {c:PC} (h:yR kind P s.l (k:Int) gone c=0):jC kind P s (k:Int) gone c=pW kind P s k gone c:=by unfold jC;rw [if_pos h,Int.toNat_natCast]
theorem oY {kind:Int} {P:Nat} {l:List PC} {k gone:Nat} {c:PC} (h:k+gone≤l.length):yR kind P l (k:Int) gone c=k8 kind P l k gone c:=by unfold yR;rw [if_neg (by omega),Int.toNat_natCast]
theorem wL {kind:Int} {P:Nat} {l:List PC} {i:Int} {gone:Nat} {c:PC} (h:i<0∨(l.length:Int)-gone<i):yR kind P l i gone c=64:=by unfold yR;rw [if_pos h]
theorem jP {kind:Int} {P:Nat} {pre:List UInt8} {l:List PC} {waste:Nat} {anew:Bool} (h:anew=true∨P<z5 kind l pre.length+waste):xU kind P pre l waste anew=jI kind l:=by
 unfold xU;rw [if_pos];rcases h with h|h
 ·rw [h];rfl
 ·rw [decide_eq_true h,Bool.or_true]
theorem bZ {kind:Int} {P:Nat} {pre:List UInt8} {l:List PC} {waste:Nat} (h:¬P<z5 kind l pre.length+waste):xU kind P pre l waste false=⟨l,pre,waste⟩:=by
 unfold xU;rw [if_neg (by rw [decide_eq_false h];decide)]
theorem lS {w0 w:World} {L:List Ent} {r P:Nat} {kind:Int} {s:KP} (hS:RkP w0 w L r P kind s) (hk:KInv kind P s) (hkd:kind=2∨kind=3) (hP:P≤65536) (x:CV) (hx:XIn L x) (i:Int) (hi64:yE i):
 Calls Tryz.prog 90 #[.pointer (some ⟨r,0,none⟩),.int .i64 i,zJ x] w fun e w'=>e= .returned (.int .i64 (yR kind P s.l i 0 x.c))∧RkP w0 w' L r P kind (jC kind P s i 0 x.c):=by
 obtain ⟨u,pv,l,hpl,hr,hS⟩:=hS;obtain ⟨sl,pre,waste⟩:=s;simp only at hpl hS;subst hpl;have hlen:=hk.len hP;obtain ⟨hn1,hn2,hn3⟩:=hk.nums;have hpo:=hk.pre;simp only [zA] at hlen hn1 hn2 hn3 hpo;have hS1:=(hS.alloc 43 [x.kv,.int .i64 x.c.kind,x.vv,.int .i64 x.c.page,.int .i64 x.c.count]).sw1;have hx':XIn (z7 w.heap.size 43 [x.kv,.int .i64 x.c.kind,x.vv,.int .i64 x.c.page,.int .i64 x.c.count]::L) x:=XIn.app (L1:= [_]) hx;have hx1:=hx'.ok hS1 (fun E hE=>List.mem_cons_of_mem _ hE);have hS2:=hS1.rkOpen;have hrd:=hS2.openRd (u:=u) (l:=l) (by simp) (fun E hE=>by simp [hE]) hr;obtain ⟨U,uc,rfl,hm,hc⟩:=hrd.slice;obtain ⟨PV,pvc,rfl⟩:=Own.slice (show OwB _ 0 pv pre from hS2.tail.tail.head);have hbp:OBlk _ r 118 [.int .i64 kind,.int .i64 (P:Int),.slice U l.length uc,.slice PV pre.length pvc,.int .i64 (waste:Int)]:=hS2.head;obtain ⟨b0,b1,b2,b3,b4⟩:=zC hbp
 by_cases hin:i<0∨(l.length:Int)<i
 ·have hz:yR kind P (pcs l) i 0 x.c=64:=wL (by rw [zA];omega);have HZ:Hid (jC kind P ⟨pcs l,pre,waste⟩ i 0 x.c=⟨pcs l,pre,waste⟩):=Lib.hid (nG (by show yR kind P (pcs l) i 0 x.c≠0;rw [hz];decide));rw [HZ.out];simp only [hz];have HS:=Lib.hid (hS1.sw1.tail);clear hz hS1 hx1 hrd hbp hS hS2 hx' hk hpo;unfold zJ;rcases hin with h|h
  ·go_enter Tryz.func90,Tryz.ntmps90;go_wp2_with fail;go_ret;exact ⟨rfl,_,_,l,rfl,hr,HS.out⟩
  ·have h':¬i<0:=by omega
   go_enter Tryz.func90,Tryz.ntmps90;go_wp2_with fail;go_ret;exact ⟨rfl,_,_,l,rfl,hr,HS.out⟩
 ·obtain ⟨k,rfl⟩:∃k:Nat,i=(k:Int):=⟨i.toNat,by omega⟩
  have hkl:k+0≤l.length:=by omega
  have hkp:k+0≤(pcs l).length:=by rw [zA];exact hkl
  have hz:yR kind P (pcs l) (k:Int) 0 x.c=k8 kind P (pcs l) k 0 x.c:=oY hkp;have HZN:Hid (k8 kind P (pcs l) k 0 x.c≠0→jC kind P ⟨pcs l,pre,waste⟩ (k:Int) 0 x.c=⟨pcs l,pre,waste⟩):=Lib.hid (fun h=>nG (by show yR kind P (pcs l) (k:Int) 0 x.c≠0;rw [hz];exact h));have HZY:Hid (k8 kind P (pcs l) k 0 x.c=0→jC kind P ⟨pcs l,pre,waste⟩ (k:Int) 0 x.c=pW kind P ⟨pcs l,pre,waste⟩ k 0 x.c):=Lib.hid (fun h=>wO (by show yR kind P (pcs l) (k:Int) 0 x.c=0;rw [hz];exact h));simp only [hz];have HBIG:Hid (zQ kind P x.c=true→xT (zX (pcs l) k 0 x.c)≤10000000000):=Lib.hid (fun h=>tM hk hP h);have HPO:Hid (xI kind pre k 0 x.c=false→PreOk kind (zX (pcs l) k 0 x.c) pre):=Lib.hid (fun h=>mH hpo hkp (by omega) h);have HMAY:Hid (k8 kind P (pcs l) k 0 x.c=0→zQ kind P x.c=true):=Lib.hid (fun h=>(dI h).1);have hC:=fun (W:World) (hW:Sep w0 W _)=>dY (L:=z7 w.heap.size 43 [x.kv,.int .i64 x.c.kind,x.vv,.int .i64 x.c.page,.int .i64 x.c.count]::L) (P:=P) (kind:=kind) (r:=r) (waste:=waste) (u:= .slice U l.length uc) (pv:= .slice PV pre.length pvc) (pre:=pre) (l:=l) hW hr (by omega) x hx' k 0 hkl;have HR:=Lib.hid hr;have HXI:=Lib.hid hx'
  have ik0:¬(k:Int)<0:=by omega
  have ik1:¬(l.length:Int)<(k:Int):=by omega
  clear hz hin hS hS1 hk hpo hrd hx hx' hr hbp;obtain ⟨KA,ka,VA,va,key,ck,val,pg,ct,rfl,-,-⟩:=CV.form hx1;simp only at hC hS2 HBIG HPO HMAY HZN HZY HXI⊢;unfold zJ at hC⊢;simp only at hC⊢;clear hx1;go_enter Tryz.func90,Tryz.ntmps90;go_upto_region 3 with (fail);generalize hW1:w.alloc (.cells #[.slice KA key.length ka,.int .i64 ck,.slice VA val.length va,.int .i64 pg,.int .i64 ct] 43)=w1 at*;obtain ⟨bx,hbx⟩:∃b,w.heap.size=b:=⟨_,rfl⟩;rw [hbx] at hS2 hC HXI⊢;have hC1:=hC w1 hS2;rw [show ((k+0:Nat):Int)=(k:Int) from rfl] at hC1;obtain ⟨c0,c1,c2,c3,c4⟩:=zC (show OBlk w1 bx 43 [.slice KA key.length ka,.int .i64 ck,.slice VA val.length va,.int .i64 pg,.int .i64 ct] from hS2.of_mem (E:=z7 bx 43 [.slice KA key.length ka,.int .i64 ck,.slice VA val.length va,.int .i64 pg,.int .i64 ct]) (by simp));clear hW1 hbx hC
  go_upto_region 4 with (first
   |(go_at_call 148;(with_reducible refine hC1.mono ?_);rintro e w3 ⟨A3,d3,⟨ykv,yvv,yc⟩,rfl,hyc,hS3⟩;simp only at hyc;subst hyc;try simp only at hS3;generalize hmm:l.take k++(⟨ykv,yvv,⟨key,ck,val,pg,ct⟩⟩:CV)::l.drop (k+0)=m at*;have HMM:=Lib.hid hmm;clear hmm)
   |fail)
  clear hC1 c0 c1 c2 c3 c4 b0 b1 b2 b3 b4 hS2
  have hrm:RdCs w3 (.slice A3 m.length d3) m:=by
   have h:=RdCs.with8 (v:= .slice A3 m.length d3) (y:=⟨ykv,yvv,⟨key,ck,val,pg,ct⟩⟩) (k:=k) (gone:=0) (l:=l) (by rw [HMM.out];exact hS3) rfl HR.out ⟨HXI.out.r1,HXI.out.r2,HXI.out.r3⟩;rw [HMM.out] at h;exact h
  have HRNG:Hid (RngC m):=Lib.hid (by rw [←HMM.out];exact HR.out.with_ (y:=⟨ykv,yvv,⟨key,ck,val,pg,ct⟩⟩) ⟨HXI.out.r1,HXI.out.r2,HXI.out.r3⟩ _ _);have HPM:Hid (pcs m=zX (pcs l) k 0 ⟨key,ck,val,pg,ct⟩):=Lib.hid (by rw [←HMM.out];exact dE l k 0 ⟨ykv,yvv,⟨key,ck,val,pg,ct⟩⟩)
  have hml:m.length≤l.length+1∧k<m.length:=by
   rw [←HMM.out];simp only [List.length_append,List.length_cons,List.length_take,List.length_drop];omega
  have hmk:∀h:k<m.length,m[k]=(⟨ykv,yvv,⟨key,ck,val,pg,ct⟩⟩:CV):=by
   rw [←HMM.out];exact fun h=>t0 hkl h
  have hRf:=dV (show OBlk w3 r 118 [.int .i64 kind,.int .i64 (P:Int),.slice U l.length uc,.slice PV pre.length pvc,.int .i64 (waste:Int)] from hS3.tail.tail.tail.head) hkd hP _ _ hrm k hml.2 (by omega) (fun h=>by rw [hmk] at h;rw [HPM.out];have:=HBIG.out h;omega);rw [HPM.out,tW hkp] at hRf
  have HCW:Hid (∀{W:World} {M:List Ent},Sep w0 W (zB ykv key::zB yvv val::zP 43 5 (.slice A3 m.length d3) m.length (zF m)::(zG l++M))→Sep w0 W (csE (.slice A3 m.length d3) m::M)):=
   Lib.hid (fun h=>by rw [←HMM.out] at h⊢;exact Sep.csWith (y:=⟨ykv,yvv,⟨key,ck,val,pg,ct⟩⟩) (by omega) hkl rfl h)
  clear hrm hml hmk;generalize hzz:k8 kind P (pcs l) k 0 ⟨key,ck,val,pg,ct⟩=Z at*;have HZQ:=Lib.hid hzz;clear hzz
  go_upto_region 5 with (first
   |(go_at_call 149;(with_reducible refine hRf.mono ?_);rintro e w4 ⟨rfl,hw4⟩)
   |fail)
  have hS4:=hS3.below hw4;clear hRf hS3 hw4
  by_cases hZ:Z=0
  ·subst hZ;have hmy:=HMAY.out rfl;have HBG:=Lib.hid (HBIG.out hmy);have HKP:=Lib.hid (HZY.out rfl);clear hmy HBIG HMAY HZN HZY;obtain ⟨b0,b1,b2,b3,b4⟩:=zC (show OBlk w4 r 118 [.int .i64 kind,.int .i64 (P:Int),.slice U l.length uc,.slice PV pre.length pvc,.int .i64 (waste:Int)] from hS4.tail.tail.tail.head);have f2:=(show OBlk w4 r 118 [.int .i64 kind,.int .i64 (P:Int),.slice U l.length uc,.slice PV pre.length pvc,.int .i64 (waste:Int)] from hS4.tail.tail.tail.head).frozen (j:=2) (by simp);go_upto_region 8 with (fail);have hS5:Sep w0 _ (rkB r kind P (.slice A3 m.length d3) (.slice PV pre.length pvc) waste::zB ykv key::zB yvv val::zP 43 5 (.slice A3 m.length d3) m.length (zF m)::zP 43 5 (.slice U l.length uc) l.length (zF l)::zB (.slice PV pre.length pvc) pre::(zG l++z7 bx 43 [.slice KA key.length ka,.int .i64 ck,.slice VA val.length va,.int .i64 pg,.int .i64 ct]::L)):=(hS4.sw [_,_,_]).setCell 2 (.slice A3 m.length d3);clear hS4 b0 b1 b2 b3 b4 f2;generalize w4.setCell ⟨r,2,none⟩ (.slice A3 m.length d3)=w5 at*;have hS5b:Sep w0 w5 (zB ykv key::zB yvv val::zP 43 5 (.slice A3 m.length d3) m.length (zF m)::rkB r kind P (.slice A3 m.length d3) (.slice PV pre.length pvc) waste::zB (.slice PV pre.length pvc) pre::(zG l++z7 bx 43 [.slice KA key.length ka,.int .i64 ck,.slice VA val.length va,.int .i64 pg,.int .i64 ct]::L)):=Sep.pick (L:= [_,_,_,_,_,_]) [1,2,3,0,5] (by decide) rfl hS5
   have hS6:Sep w0 w5 (csE (.slice A3 m.length d3) m::rkB r kind P (.slice A3 m.length d3) (.slice PV pre.length pvc) waste::zB (.slice PV pre.length pvc) pre::z7 bx 43 [.slice KA key.length ka,.int .i64 ck,.slice VA val.length va,.int .i64 pg,.int .i64 ct]::L):=HCW.out hS5b.push2c;have hS7:=hS6.sw1;clear hS6 hS5 hS5b HCW;obtain ⟨c0,c1,c2,c3,c4⟩:=zC (show OBlk w5 bx 43 [.slice KA key.length ka,.int .i64 ck,.slice VA val.length va,.int .i64 pg,.int .i64 ct] from hS7.of_mem (E:=z7 bx 43 [.slice KA key.length ka,.int .i64 ck,.slice VA val.length va,.int .i64 pg,.int .i64 ct]) (by simp));have hrk:RdB w5 (.slice KA key.length ka) key:=(HXI.out.ok hS7 (fun E hE=>by simp only [List.mem_cons] at hE⊢;rcases hE with rfl|hE;exact .inr (.inr (.inr (.inl rfl)));exact .inr (.inr (.inr (.inr hE))))).k;have hBg:=mN (p8 hS7 HRNG.out) _ key hrk;obtain ⟨bg,hbg⟩:∃bg,jG key pre=bg:=⟨_,rfl⟩;have HBGN:=Lib.hid hbg;rw [hbg] at hBg;clear hbg hrk
   go_upto_region 9 with (first
    |(go_at_call 150;(with_reducible refine hBg.mono ?_);rintro e w6 ⟨rfl,hw6⟩)
    |fail)
   have hS8:=hS7.below hw6;clear hBg hS7 hw6 c0 c1 c2 c3 c4;have HAT:=Lib.hid (p8 hS8 HRNG.out)
   have hbm:xT (pcs m)≤100000000000000:=by rw [HPM.out];have:=HBG.out;omega
   have HBM:=Lib.hid hbm;have HFS:=Lib.hid (pI HAT.out hbm (by omega) hP (by omega))
   have HFE:Hid (xI kind pre k 0 ⟨key,ck,val,pg,ct⟩=false→Calls Tryz.prog 151 #[.pointer (some ⟨r,0,none⟩)] w6 fun e w'=>e= .returned (.bool (decide (P<z5 kind (zX (pcs l) k 0 ⟨key,ck,val,pg,ct⟩) pre.length+waste)))∧Below w6.heap.size w6 w'):=Lib.hid (fun h=>by
    have h1:=HPO.out h
    have h2:=rJ HAT.out hbm (by omega) hP (by omega) (fun i hi hn=>by
     have h3:=HPM.out
     have h4:i<(zX (pcs l) k 0 ⟨key,ck,val,pg,ct⟩).length:=by rw [←h3];exact hi
     have h5:=(jH.1 (h1 i h4 hn)).1
     have h6:(pcs m)[i]=(zX (pcs l) k 0 ⟨key,ck,val,pg,ct⟩)[i]:=by congr 1
     rw [h6];exact h5) (by have h7:=bM kind pre.length (pcs m) (pcs m).length (by omega);rw [List.take_length] at h7;omega)
    rw [HPM.out] at h2
    exact h2)
   have hln:m.length≤65536:=by
    have h1:(pcs m).length=m.length:=zA m;rw [HPM.out] at h1;unfold zX at h1;simp only [List.length_append,List.length_cons,List.length_take,List.length_drop,zA] at h1;omega
   have HT:Hid (∀W,Sep w0 W (rkB r kind P (.slice A3 m.length d3) (.slice PV pre.length pvc) waste::csE (.slice A3 m.length d3) m::zB (.slice PV pre.length pvc) pre::z7 bx 43 [.slice KA key.length ka,.int .i64 ck,.slice VA val.length va,.int .i64 pg,.int .i64 ct]::L)→Calls Tryz.prog 86 #[.pointer (some ⟨r,0,none⟩)] W fun e w'=>(∃x,e= .returned x)∧RkP w0 w' L r P kind (jI kind (zX (pcs l) k 0 ⟨key,ck,val,pg,ct⟩))):=Lib.hid (fun W hW=>by
    refine (b7 hW (l:=m) (u:= .slice A3 m.length d3) (fun V hV=>qA (hV (csE (.slice A3 m.length d3) m) (by simp)) HRNG.out) hln hbm).mono ?_;rintro e w' ⟨h1,pv',h2⟩;rw [HPM.out] at h2;refine ⟨h1,.slice A3 m.length d3,pv',m,HPM.out,HRNG.out,?_⟩
    exact (Sep.pick (L:= [_,_,_,_,_]) [0,2,1] (by decide) rfl h2).rkShut)
   clear hbm hln HAT HBM;have hput:pW kind P ⟨pcs l,pre,waste⟩ k 0 ⟨key,ck,val,pg,ct⟩=xU kind P pre (zX (pcs l) k 0 ⟨key,ck,val,pg,ct⟩) waste (xI kind pre k 0 ⟨key,ck,val,pg,ct⟩):=rfl;have HKC:=Lib.hid (HKP.out.trans hput);clear hput
   have hcs:(kind=3∧k=0)∨(kind≠3)∨(kind=3∧k≠0):=by omega
   rcases hcs with ⟨h3,h0⟩|h3|⟨h3,h0⟩
   ·have han:xI kind pre k 0 ⟨key,ck,val,pg,ct⟩=true:=by unfold xI vZ;rw [if_pos rfl,decide_eq_true ⟨h3,h0⟩];rfl
    have e3:(kind==3)=true:=beq_iff_eq.2 h3;have e0:((k:Int)==0)=true:=beq_iff_eq.2 (by omega);have HAN:=Lib.hid han;clear h3 h0 HBGN han
    go_upto_region 10 with (first
     |(go_at_call 151;(with_reducible refine HFS.out.mono ?_);rintro e w7 ⟨q,rfl,hw7⟩)
     |fail)
    have hS9:=hS8.below hw7;obtain ⟨b0,b1,b2,b3,b4⟩:=zC (show OBlk w7 r 118 [.int .i64 kind,.int .i64 (P:Int),.slice A3 m.length d3,.slice PV pre.length pvc,.int .i64 ((waste:Nat):Int)] from hS9.head);clear hS8 hw7 HFS HFE
    go_wp2_with (first
     |(go_at_call 86;(with_reducible refine (HT.out _ hS9).mono ?_);rintro e w8 ⟨⟨_,rfl⟩,hQ⟩)
     |fail)
    go_ret;exact ⟨by rw [HZQ.out];rfl,by rw [HKC.out,jP (.inl HAN.out)];exact hQ⟩
   ·have e3:(kind==3)=false:=beq_eq_false_iff_ne.2 h3
    cases bg with
    |true=>
     have han:xI kind pre k 0 ⟨key,ck,val,pg,ct⟩=false:=by unfold xI vZ;rw [if_pos rfl,decide_eq_false (fun e=>h3 e.1),HBGN.out];rfl
     have HAN:=Lib.hid han;clear h3 HBGN han;have hFE:=HFE.out HAN.out;clear HFS HFE
     by_cases hfu:P<z5 kind (zX (pcs l) k 0 ⟨key,ck,val,pg,ct⟩) pre.length+waste
     ·rw [decide_eq_true hfu] at hFE;have HFU:=Lib.hid hfu;clear hfu
      go_upto_region 10 with (first
       |(go_at_call 151;(with_reducible refine hFE.mono ?_);rintro e w7 ⟨rfl,hw7⟩)
       |fail)
      have hS9:=hS8.below hw7;obtain ⟨b0,b1,b2,b3,b4⟩:=zC (show OBlk w7 r 118 [.int .i64 kind,.int .i64 (P:Int),.slice A3 m.length d3,.slice PV pre.length pvc,.int .i64 ((waste:Nat):Int)] from hS9.head);clear hS8 hw7 hFE
      go_wp2_with (first
       |(go_at_call 86;(with_reducible refine (HT.out _ hS9).mono ?_);rintro e w8 ⟨⟨_,rfl⟩,hQ⟩)
       |fail)
      go_ret;exact ⟨by rw [HZQ.out];rfl,by rw [HKC.out,jP (.inr HFU.out)];exact hQ⟩
     ·rw [decide_eq_false hfu] at hFE;have HFU:=Lib.hid hfu;clear hfu
      go_upto_region 10 with (first
       |(go_at_call 151;(with_reducible refine hFE.mono ?_);rintro e w7 ⟨rfl,hw7⟩)
       |fail)
      have hS9:=hS8.below hw7;obtain ⟨b0,b1,b2,b3,b4⟩:=zC (show OBlk w7 r 118 [.int .i64 kind,.int .i64 (P:Int),.slice A3 m.length d3,.slice PV pre.length pvc,.int .i64 ((waste:Nat):Int)] from hS9.head);have HS9:=Lib.hid (Sep.pick (L:= [_,_,_,_]) [0,1,2] (by decide) rfl hS9);clear hS8 hw7 hFE hS9;go_wp2_with fail;go_ret;exact ⟨by rw [HZQ.out];rfl,by rw [HKC.out,HAN.out,bZ HFU.out];exact ⟨_,_,m,HPM.out,HRNG.out,HS9.out.rkShut⟩⟩
    |false=>
     have han:xI kind pre k 0 ⟨key,ck,val,pg,ct⟩=true:=by unfold xI vZ;rw [if_pos rfl,HBGN.out,Bool.not_false,Bool.or_true]
     have HAN:=Lib.hid han;clear h3 HBGN han
     go_upto_region 10 with (first
      |(go_at_call 151;(with_reducible refine HFS.out.mono ?_);rintro e w7 ⟨q,rfl,hw7⟩)
      |fail)
     have hS9:=hS8.below hw7;obtain ⟨b0,b1,b2,b3,b4⟩:=zC (show OBlk w7 r 118 [.int .i64 kind,.int .i64 (P:Int),.slice A3 m.length d3,.slice PV pre.length pvc,.int .i64 ((waste:Nat):Int)] from hS9.head);clear hS8 hw7 HFS HFE
     go_wp2_with (first
      |(go_at_call 86;(with_reducible refine (HT.out _ hS9).mono ?_);rintro e w8 ⟨⟨_,rfl⟩,hQ⟩)
      |fail)
     go_ret;exact ⟨by rw [HZQ.out];rfl,by rw [HKC.out,jP (.inl HAN.out)];exact hQ⟩
   ·have e3:(kind==3)=true:=beq_iff_eq.2 h3;have e0:((k:Int)==0)=false:=beq_eq_false_iff_ne.2 (by omega)
    cases bg with
    |true=>
     have han:xI kind pre k 0 ⟨key,ck,val,pg,ct⟩=false:=by unfold xI vZ;rw [if_pos rfl,decide_eq_false (fun e=>h0 e.2),HBGN.out];rfl
     have HAN:=Lib.hid han;clear h3 h0 HBGN han;have hFE:=HFE.out HAN.out;clear HFS HFE
     by_cases hfu:P<z5 kind (zX (pcs l) k 0 ⟨key,ck,val,pg,ct⟩) pre.length+waste
     ·rw [decide_eq_true hfu] at hFE;have HFU:=Lib.hid hfu;clear hfu
      go_upto_region 10 with (first
       |(go_at_call 151;(with_reducible refine hFE.mono ?_);rintro e w7 ⟨rfl,hw7⟩)
       |fail)
      have hS9:=hS8.below hw7;obtain ⟨b0,b1,b2,b3,b4⟩:=zC (show OBlk w7 r 118 [.int .i64 kind,.int .i64 (P:Int),.slice A3 m.length d3,.slice PV pre.length pvc,.int .i64 ((waste:Nat):Int)] from hS9.head);clear hS8 hw7 hFE
      go_wp2_with (first
       |(go_at_call 86;(with_reducible refine (HT.out _ hS9).mono ?_);rintro e w8 ⟨⟨_,rfl⟩,hQ⟩)
       |fail)
      go_ret;exact ⟨by rw [HZQ.out];rfl,by rw [HKC.out,jP (.inr HFU.out)];exact hQ⟩
     ·rw [decide_eq_false hfu] at hFE;have HFU:=Lib.hid hfu;clear hfu
      go_upto_region 10 with (first
       |(go_at_call 151;(with_reducible refine hFE.mono ?_);rintro e w7 ⟨rfl,hw7⟩)
       |fail)
      have hS9:=hS8.below hw7;obtain ⟨b0,b1,b2,b3,b4⟩:=zC (show OBlk w7 r 118 [.int .i64 kind,.int .i64 (P:Int),.slice A3 m.length d3,.slice PV pre.length pvc,.int .i64 ((waste:Nat):Int)] from hS9.head);have HS9:=Lib.hid (Sep.pick (L:= [_,_,_,_]) [0,1,2] (by decide) rfl hS9);clear hS8 hw7 hFE hS9;go_wp2_with fail;go_ret;exact ⟨by rw [HZQ.out];rfl,by rw [HKC.out,HAN.out,bZ HFU.out];exact ⟨_,_,m,HPM.out,HRNG.out,HS9.out.rkShut⟩⟩
    |false=>
     have han:xI kind pre k 0 ⟨key,ck,val,pg,ct⟩=true:=by unfold xI vZ;rw [if_pos rfl,HBGN.out,Bool.not_false,Bool.or_true]
     have HAN:=Lib.hid han;clear h3 h0 HBGN han
     go_upto_region 10 with (first
      |(go_at_call 151;(with_reducible refine HFS.out.mono ?_);rintro e w7 ⟨q,rfl,hw7⟩)
      |fail)
     have hS9:=hS8.below hw7;obtain ⟨b0,b1,b2,b3,b4⟩:=zC (show OBlk w7 r 118 [.int .i64 kind,.int .i64 (P:Int),.slice A3 m.length d3,.slice PV pre.length pvc,.int .i64 ((waste:Nat):Int)] from hS9.head);clear hS8 hw7 HFS HFE
     go_wp2_with (first
      |(go_at_call 86;(with_reducible refine (HT.out _ hS9).mono ?_);rintro e w8 ⟨⟨_,rfl⟩,hQ⟩)
      |fail)
     go_ret;exact ⟨by rw [HZQ.out];rfl,by rw [HKC.out,jP (.inl HAN.out)];exact hQ⟩
  ·have hzn:(Z !=0)=true:=by simp only [bne,beq_eq_false_iff_ne.2 hZ];rfl
   have HKN:=Lib.hid (HZN.out hZ);have HS9:=Lib.hid (hS4.tail.tail.tail.rkClose.sw1.tail);clear hZ hS4 HZY HZN;go_wp2_with fail;go_ret;exact ⟨by rw [HZQ.out];rfl,by rw [HKN.out];exact ⟨_,_,l,rfl,HR.out,HS9.out⟩⟩
end Go.Proofs.YtfcnkpofcekmgaaGreat
