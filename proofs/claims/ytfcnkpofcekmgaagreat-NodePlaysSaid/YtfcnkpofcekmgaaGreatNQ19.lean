/- Texts joined. -/
import Derived.Test.YtfcnkpofcekmgaaGreatNQ18
set_option maxRecDepth 100000
set_option maxHeartbeats 64000000
namespace Go.Proofs.YtfcnkpofcekmgaaGreat
open Go.RowKit
theorem zGB (x y:UInt8):(x<y)↔(x.toNat:Int)<(y.toNat:Int):=by rw [UInt8.lt_iff_toNat_lt];omega
theorem wS (va vb:Value) (a b:List UInt8) (w:World) (ha:RdB w va a) (hb:RdB w vb b):
 Calls Tryz.prog 152 #[va,vb] w fun e w'=>e= .returned (.int .i64 (yD a b))∧Below w.heap.size w w':=by
 obtain ⟨A,ca,rfl,hma⟩:=ha.form;obtain ⟨B,cb,rfl,hmb⟩:=hb.form;go_enter Tryz.func152,Tryz.ntmps152;go_wp2_with fail
 go_loopw [5] (fun i wr=>∃j:Nat,i= .int .i64 (j:Int)∧j≤a.length∧j≤b.length∧Hid (yD a b=yD (a.drop j) (b.drop j))∧Below w.heap.size w wr)
  (fun i _=>a.length-(intOf i).toNat)
 case atStart=>exact ⟨0,rfl,Nat.zero_le _,Nat.zero_le _,Lib.hid rfl,Below.refl _ _⟩
 case round=>
  obtain ⟨j,rfl,hja,hjb,HE,hbl⟩:=hrel
  by_cases hlt:j<a.length∧j<b.length
  ·obtain ⟨ja,jb⟩:=hlt;obtain ⟨ad,rfl,hca⟩:=(ha.below hbl (Nat.le_refl _)).at_ ja;obtain ⟨bd,rfl,hcb⟩:=(hb.below hbl (Nat.le_refl _)).at_ jb
   have i1:(j:Int)<(a.length:Int):=by omega
   have i2:(j:Int)<(b.length:Int):=by omega
   have HE2:=Lib.hid (HE.out.trans (by rw [List.drop_eq_getElem_cons ja,List.drop_eq_getElem_cons jb]));generalize a[j]=x at hca HE2;generalize b[j]=y at hcb HE2;have hca':wr.drew.cell? (ad.add j)=some (.int .u8 (x.toNat:Int)):=hca;have hcb':wr.drew.cell? (bd.add j)=some (.int .u8 (y.toNat:Int)):=hcb;rcases (by omega:(x.toNat:Int)<(y.toNat:Int)∨(y.toNat:Int)<(x.toNat:Int)∨x.toNat=y.toNat) with hxy|hxy|hxy
   ·have HE3:=Lib.hid (HE2.out.trans (zG5 ((zGB x y).mpr hxy) _ _));go_upto_region 4 with (fail)
    go_region
    go_wp2_with fail;go_ret;rw [HE3.out];exact ⟨rfl,hbl.drew⟩
   ·have HE3:=Lib.hid (HE2.out.trans (zHJ ((zGB y x).mpr hxy) _ _));go_upto_region 4 with (fail)
    go_region
    go_upto_region 6 with (fail)
    go_region
    go_wp2_with fail;go_ret;rw [HE3.out];exact ⟨rfl,hbl.drew.drew⟩
   ·obtain rfl:=UInt8.toNat_inj.mp hxy;have HE3:=Lib.hid (HE2.out.trans (wP _ _ _));clear hxy;go_upto_region 4 with (fail)
    go_region
    go_upto_region 6 with (fail)
    go_region
    go_wp2_with fail;go_roundw
    case rel=>exact ⟨j+1,by go_num,by omega,by omega,HE3,hbl.drew.drew⟩
    case measure=>simp [intOf];omega
  ·rcases (by omega:(j=a.length∧a.length<b.length)∨(j=a.length∧a.length=b.length)∨(j<a.length∧j=b.length)) with ⟨h1,h2⟩|⟨h1,h2⟩|⟨h1,h2⟩
   ·have HV:=Lib.hid (HE.out.trans (by rw [h1,List.drop_length,List.drop_eq_getElem_cons h2];rfl:_=(-1:Int)))
    have j1:¬(j:Int)<(a.length:Int):=by omega
    have j2:(a.length:Int)<(b.length:Int):=by omega
    clear hlt h1;go_wp2_with fail;go_ret;rw [HV.out];exact ⟨rfl,hbl⟩
   ·have HV:=Lib.hid (HE.out.trans (by rw [List.drop_of_length_le (by omega),List.drop_of_length_le (by omega)];rfl:_=(0:Int)))
    have j1:¬(j:Int)<(a.length:Int):=by omega
    have j2:¬(a.length:Int)<(b.length:Int):=by omega
    have j3:¬(b.length:Int)<(a.length:Int):=by omega
    clear hlt h1 h2;go_wp2_with fail;go_ret;rw [HV.out];exact ⟨rfl,hbl⟩
   ·have hbd:b.drop j= []:=List.drop_of_length_le (by omega);have HV:=Lib.hid (HE.out.trans (by rw [hbd,List.drop_eq_getElem_cons h1];rfl:_=(1:Int)));clear hbd
    have j1:(j:Int)<(a.length:Int):=by omega
    have j2:¬(j:Int)<(b.length:Int):=by omega
    have j3:(b.length:Int)<(a.length:Int):=by omega
    have j4:¬(a.length:Int)<(b.length:Int):=by omega
    clear hlt h1 h2;go_wp2_with fail;go_ret;rw [HV.out];exact ⟨rfl,hbl⟩
theorem RdIn.old {w:World} {v:Value} {l:List UInt8} {L:List Ent} (h:RdB w v l) (hm:yK w∈L):RdIn L v l:=
 ⟨yK w,hm,fun _ hW=>h.keep fun p hp=>World.cell?_of_block (hW p.block hp)⟩
theorem RdIn.bytes {v:Value} {l:List UInt8} {L:List Ent} (hm:zB v l∈L):RdIn L v l:=⟨_,hm,fun _ h=>OwB.rd h⟩
theorem Sep.appended1 {w0 w w':World} {v v':Value} {l m:List UInt8} {L:List Ent} (h:Sep w0 w (zB v l::L)) (ho:OwB w' 0 v' m) (hg:w.grownBy w' v.ownBlock) (hk:v'.ownBlock=v.ownBlock∨v'.ownBlock=some (w.heap.size+1)):Sep w0 w' (zB v' m::L):=
 h.upd (Turn.of_grown hg (fun _ e=>e)) ho (fun g hg'=>⟨by
  rcases hk with e|e
  ·exact .inl (e.symm.trans hg':v.ownBlock=some g)
  ·right
   have:=e.symm.trans hg'
   injection this with this
   omega,(Own.lt ho g hg').2⟩)
theorem yL {w0 w:World} {L:List Ent} {v u:Value} {l m:List UInt8} (h:Sep w0 w (zB v l::L)) (hu:RdIn L u m) (hn:l.length+m.length≤140737488355328):
 Calls Tryz.prog 124 #[v,u] w fun e w'=>∃v',e= .returned v'∧Sep w0 w' (zB v' (l++m)::L):=by
 obtain ⟨A,ca,rfl,hma⟩:=(h.tail.rdIn hu).form;go_enter Tryz.func124,Tryz.ntmps124;go_wp2_with fail
 go_loopw [0,5] (fun b i wr=>∃j:Nat,i= .int .i64 (j:Int)∧j≤m.length∧Sep w0 wr (zB b (l++m.take j)::L)) (fun _ i _=>m.length-(intOf i).toNat)
 case atStart=>exact ⟨0,rfl,Nat.zero_le _,by rw [List.take_zero,List.append_nil];exact h⟩
 case round=>
  obtain ⟨j,rfl,hj,hS⟩:=hrel
  by_cases hlt:j<m.length
  ·obtain ⟨ad,rfl,hc⟩:=(hS.tail.rdIn hu).at_ hlt;have htk:=List.take_append_getElem hlt
   have hln:(l++m.take j).length+1≤140737488355328:=by simp;omega
   generalize m[j]=x at hc htk;have ho:OwB wr 0 _ (l++m.take j):=hS.head;have HT:=Lib.hid htk
   have ij:(j:Int)<(m.length:Int):=by omega
   clear htk
   go_wp2_with (first
    |(at_builtin;refine jO rfl (.tmp 12) (.tmp 17) rfl 0 _ _ rfl ho x _ rfl 5 rfl hln (Nat.zero_le _) ?_;intro v3 w3 ho3 hg3 hk3;have hS3:=hS.appended1 ho3 hg3 hk3)
    |fail)
   go_roundw
   case rel=>exact ⟨j+1,by go_num,by omega,by rw [←HT.out,←List.append_assoc];exact hS3⟩
   case measure=>simp [intOf];omega
  ·obtain rfl:j=m.length:=by omega
   rw [List.take_length] at hS;go_wp2_with fail;go_ret;exact ⟨_,rfl,hS⟩
theorem rS (kind:Int) (i:Nat) (v:Value) (key:List UInt8) (pre:Nat) (w:World) (hk:RdB w v key) (hp:¬(kind=3∧i=0)→pre≤key.length):
 Calls Tryz.prog 162 #[.int .i64 kind,.int .i64 (i:Int),v,.int .i64 (pre:Int)] w fun e w'=>(∃A c,e= .returned (.slice A (yI kind i key pre).length c)∧RdB w (.slice A (yI kind i key pre).length c) (yI kind i key pre))∧w=w':=by
 obtain ⟨A,ca,rfl,hka⟩:=hk.form
 by_cases h:kind=3∧i=0
 ·obtain ⟨rfl,rfl⟩:=h
  have HR:Hid (yI 3 0 key pre=key):=by show _=_;unfold yI;rw [if_pos ⟨rfl,rfl⟩]
  clear hp;go_enter Tryz.func162,Tryz.ntmps162;go_wp2_with fail;go_ret;rw [HR.out];exact ⟨⟨_,_,rfl,hk⟩,rfl⟩
 ·have HR:Hid (yI kind i key pre=key.drop pre):=by show _=_;unfold yI;rw [if_neg h]
  obtain ⟨A2,c2',hrun,hrd⟩:=hk.run_l pre (hp h);have hp':=hp h
  have i1:¬(key.length:Int)<(pre:Int):=by omega
  have HRD:=Lib.hid hrd
  have hlen:(key.drop pre).length=key.length-pre:=by simp
  have HLN:=Lib.hid hlen;clear hrd hp hlen
  by_cases h3:kind=3
  ·have e1:(kind==3)=true:=by simp [h3]
   have e2:((i:Int)==0)=false:=beq_eq_false_iff_ne.2 (by omega);clear h3 h;go_enter Tryz.func162,Tryz.ntmps162;go_wp2_with fail;go_ret;rw [HR.out,HLN.out];exact ⟨⟨_,_,rfl,HRD.out⟩,rfl⟩
  ·have e1:(kind==3)=false:=beq_eq_false_iff_ne.2 h3;clear h3 h;go_enter Tryz.func162,Tryz.ntmps162;go_wp2_with fail;go_ret;rw [HR.out,HLN.out];exact ⟨⟨_,_,rfl,HRD.out⟩,rfl⟩
theorem g8 (va vb:Value) (a b:List UInt8) (w:World) (ha:RdB w va a) (hb:RdB w vb b):
 Calls Tryz.prog 121 #[va,vb] w fun e w'=>e= .returned (.bool (decide (yD a b<0)))∧Below w.heap.size w w':=by
 have ho:=wS va vb a b w ha hb;generalize yD a b=o at*;clear ha hb;go_enter Tryz.func121,Tryz.ntmps121;go_wp2_with (first|(go_at_call 152;refine ho.mono ?_;rintro e w1 ⟨rfl,hw1⟩)|fail);go_ret;exact ⟨rfl,hw1⟩
theorem lI {n:Nat} (h:n<18446744073709551616):IntKind.u64.wrap (n:Int)=(n:Int):=by rw [IntKind.wrap_u64];omega
theorem tE (v:Value) (l:List UInt8) (at_:Int) (w:World) (hv:RdB w v l):Calls Tryz.prog 156 #[v,.int .i64 at_] w (jE l at_ w):=by
 obtain ⟨A,c,rfl,hm⟩:=hv.form
 by_cases h1:at_<0
 ·have hV:Hid (ruV l at_=(0,0,1)):=by show _=_;unfold ruV;rw [if_pos (.inl h1)]
  go_enter Tryz.func156,Tryz.ntmps156;go_wp2_with fail;go_ret3;unfold jE;rw [hV.out];exact ⟨rfl,rfl⟩
 by_cases h2:(l.length:Int)<at_
 ·have hV:Hid (ruV l at_=(0,0,1)):=by show _=_;unfold ruV;rw [if_pos (.inr h2)]
  go_enter Tryz.func156,Tryz.ntmps156;go_wp2_with fail;go_ret3;unfold jE;rw [hV.out];exact ⟨rfl,rfl⟩
 obtain ⟨a,rfl⟩:=Int.eq_ofNat_of_zero_le (show 0≤at_ by omega)
 have hV:Hid (∀N K C,ruF 0 0 (l.drop a)=(N,K,C)→ruV l a=(N,bif C==0 then (a:Int)+K else 0,C)):=Lib.hid fun N K C h=>by
  unfold ruV;rw [if_neg (by omega),Int.toNat_natCast,h]
 have hal:a≤l.length:=by omega
 go_enter Tryz.func156,Tryz.ntmps156;go_wp2_with fail
 go_loopw [7,8,9] (fun n u i wr=>∃(j k U:Nat),i= .int .i64 (j:Int)∧n= .int .u64 (k:Int)∧u= .int .u64 (U:Int)∧a+j≤l.length∧j≤9∧Hid (k<128^j)∧Hid (U=128^j)∧Hid (ruF 0 0 (l.drop a)=ruF j k (l.drop (a+j)))∧w=wr)
  (fun _ _ i _=>l.length-(intOf i).toNat)
 case atStart=>exact ⟨0,0,1,rfl,rfl,rfl,by omega,by omega,Lib.hid (by simp),Lib.hid (by simp),Lib.hid (by simp),rfl⟩
 case round=>
  obtain ⟨j,k,U,rfl,rfl,rfl,hj,hj9,HK,HU,HE,rfl⟩:=hrel
  by_cases hlt:a+j<l.length
  ·obtain ⟨ad,rfl,hc⟩:=hv.at_ hlt;have hd:=List.drop_eq_getElem_cons hlt;have hxb:l[a+j].toNat<256:=l[a+j].toNat_lt;generalize l[a+j]=x at hc hd hxb;have HE2:=Lib.hid (HE.out.trans (by rw [hd,Nat.add_assoc]));clear hd HE
   have ib:(a:Int)+(j:Int)<(l.length:Int):=by omega
   by_cases hA:j=9∧1<x.toNat
   ·have HE3:=Lib.hid (hV.out _ _ _ (HE2.out.trans (zBH hA)))
    have e9:((j:Int)==9)=true:=by simp;omega
    have e1:(1:Int)<(x.toNat:Int):=by omega
    clear hA;go_wp2_with fail;go_ret3;unfold jE;rw [HE3.out];exact ⟨rfl,rfl⟩
   ·have HA:=Lib.hid hA;have hst:=r9 (k:=k) (x:=x.toNat) HK.out hj9 (fun h=>by omega);obtain ⟨s1,s2,s3⟩:=hst;rw [←HU.out] at s1 s2 s3;obtain ⟨P,hP⟩:∃P,P=x.toNat%128*U:=⟨_,rfl⟩;rw [←hP] at s1 s2 s3
    have hmul:IntKind.u64.wrap ((x.toNat:Int)%128*(U:Int))=(P:Int):=by
     rw [show (x.toNat:Int)%128*(U:Int)=(P:Int) by rw [hP];push_cast;rfl];exact lI s1
    have HK':Hid (k+P=k+x.toNat%128*128^j):=Lib.hid (by rw [hP,HU.out]);have S3:=Lib.hid s3;clear hP s3 hA
    have h9c:((j:Int)==9)=false∨((j:Int)==9)=true∧¬(1:Int)<(x.toNat:Int):=by
     by_cases h9:j=9
     ·exact .inr ⟨by simp;omega,by have:=HA.out;omega⟩
     ·exact .inl (by simp;omega)
    rcases (by omega:(x.toNat=0∧0<j)∨(¬(x.toNat=0∧0<j)∧x.toNat<128)∨¬x.toNat<128) with hB|⟨hB,hx⟩|hx
    ·have HE3:=Lib.hid (hV.out _ _ _ (HE2.out.trans (oM HA.out hB)));obtain ⟨hB1,hB2⟩:=hB
     have ex:((x.toNat:Int)==0)=true:=by simp;omega
     have hx:(x.toNat:Int)<128:=by omega
     clear hB1;rcases h9c with e9|⟨e9,e1⟩
     ·go_wp2_with fail;go_ret3;unfold jE;rw [HE3.out];exact ⟨rfl,rfl⟩
     ·go_wp2_with fail;go_ret3;unfold jE;rw [HE3.out];exact ⟨rfl,rfl⟩
    ·have HE3:=Lib.hid (hV.out _ _ _ (HE2.out.trans ((zA5 HA.out hB hx).trans (by rw [←HK'.out]))))
     have hbool:((x.toNat:Int)==0)=true∧¬(0:Int)<(j:Int)∨((x.toNat:Int)==0)=false:=by
      by_cases h0:x.toNat=0
      ·exact .inl ⟨by simp;omega,by omega⟩
      ·exact .inr (by simp;omega)
     clear hB;rcases hbool with ⟨ex,ej⟩|ex<;>rcases h9c with e9|⟨e9,e1⟩
     ·go_wp2_with fail;go_ret3;unfold jE;rw [HE3.out];exact ⟨uB rfl (congrArg (Value.int .i64) (by show (a:Int)+(j:Int)+1=(a:Int)+((j+1:Nat):Int);omega)) rfl,rfl⟩
     ·go_wp2_with fail;go_ret3;unfold jE;rw [HE3.out];exact ⟨uB rfl (congrArg (Value.int .i64) (by show (a:Int)+(j:Int)+1=(a:Int)+((j+1:Nat):Int);omega)) rfl,rfl⟩
     ·go_wp2_with fail;go_ret3;unfold jE;rw [HE3.out];exact ⟨uB rfl (congrArg (Value.int .i64) (by show (a:Int)+(j:Int)+1=(a:Int)+((j+1:Nat):Int);omega)) rfl,rfl⟩
     ·go_wp2_with fail;go_ret3;unfold jE;rw [HE3.out];exact ⟨uB rfl (congrArg (Value.int .i64) (by show (a:Int)+(j:Int)+1=(a:Int)+((j+1:Nat):Int);omega)) rfl,rfl⟩
    ·have ex:((x.toNat:Int)==0)=false:=by simp;omega
     have h9:j≠9:=fun e=>by have:=HA.out;omega
     have e9:((j:Int)==9)=false:=by simp;omega
     have HE3:=Lib.hid (HE2.out.trans ((oN HA.out hx).trans (by rw [←HK'.out])))
     have hU8:U≤72057594037927936:=by
      rw [HU.out]
      have:128^j≤128^8:=Nat.pow_le_pow_right (by omega) (by omega)
      exact Nat.le_trans this (by decide)
     clear h9c;go_wp2_with fail;refine ⟨⟨j+1,k+P,U*128,by go_num,by go_num,by go_num,by omega,by omega,Lib.hid (by rw [Nat.pow_succ,←HU.out];have:=S3.out;rw [Nat.pow_succ] at this;rw [←HU.out] at this;exact this),Lib.hid (by rw [Nat.pow_succ,HU.out]),HE3,trivial⟩,by simp [intOf];omega⟩
  ·have HE3:=Lib.hid (hV.out _ _ _ (HE.out.trans (by rw [List.drop_of_length_le (by omega)])));go_wp2_with fail;go_ret3;unfold jE;rw [HE3.out];exact ⟨rfl,rfl⟩
theorem iL (d:List UInt8) (at_:Nat) (ha:at_≤d.length) (N K:Nat) (E:Int) (hr:ruF 0 0 (d.drop at_)=(N,K,E)) (v:Value) (w:World) (hv:RdB w v d):
 Calls Tryz.prog 156 #[v,.int .i64 (at_:Int)] w fun e w'=>e= .returned (.tuple #[.int .u64 (N:Int),.int .i64 (bif E==0 then (at_:Int)+K else 0),.int .i64 E])∧w'=w:=
 (tE v d at_ w hv).mono fun e w' h=>by
  unfold jE ruV at h;rw [if_neg (by omega),Int.toNat_natCast,hr] at h;exact ⟨h.1,h.2.symm⟩
theorem Sep.blkK {w0 w:World} {g:Nat} {T:TypeId} {cs:List Value} {L:List Ent} (h:Sep w0 w (z7 g T cs::L)):OBlk w g T cs:=h.head
theorem nR (W:World) (d:List UInt8) (hd:d.length≤65536) (at_:Nat) (ha:at_≤d.length) (n:Nat) (v:Value) (w:World) (hv:RdB W v d) (h:d.length<at_+n):
 Calls Tryz.prog 112 #[v,.int .i64 (at_:Int),.int .u64 (n:Int)] w fun e w'=>e= .returned (.tuple #[.slice none 0 0,.bool false])∧w=w':=by
 obtain ⟨A,c,rfl,hm⟩:=hv.form
 have e1:IntKind.i64.wrap ((d.length:Int)-(at_:Int))=(d.length:Int)-(at_:Int):=by rw [IntKind.wrap_i64];omega
 have e2:IntKind.u64.wrap ((d.length:Int)-(at_:Int))=(d.length:Int)-(at_:Int):=by rw [IntKind.wrap_u64];omega
 have i1:(d.length:Int)-(at_:Int)<(n:Int):=by omega
 clear h;go_enter Tryz.func112,Tryz.ntmps112;go_wp2_with fail;go_ret2;exact ⟨rfl,rfl⟩
theorem nM (W:World) (d:List UInt8) (hd:d.length≤65536) (at_:Nat) (n:Nat) (v:Value) (hv:RdB W v d) (h:at_+n≤d.length):
 ∃A c,RdB W (.slice A n c) ((d.drop at_).take n)∧∀w,Calls Tryz.prog 112 #[v,.int .i64 (at_:Int),.int .u64 (n:Int)] w fun e w'=>e= .returned (.tuple #[.slice A n c,.bool true])∧w=w':=by
 obtain ⟨A,c,rfl,hm⟩:=hv.form
 have e1:IntKind.i64.wrap ((d.length:Int)-(at_:Int))=(d.length:Int)-(at_:Int):=by rw [IntKind.wrap_i64];omega
 have e2:IntKind.u64.wrap ((d.length:Int)-(at_:Int))=(d.length:Int)-(at_:Int):=by rw [IntKind.wrap_u64];omega
 have i1:¬(d.length:Int)-(at_:Int)<(n:Int):=by omega
 have e3:IntKind.i64.wrap (n:Int)=(n:Int):=by rw [IntKind.wrap_i64];omega
 have e4:IntKind.i64.wrap ((at_:Int)+(n:Int))=(at_:Int)+(n:Int):=by rw [IntKind.wrap_i64];omega
 obtain ⟨A2,c3,hrun,hrd⟩:=hv.run_lh at_ (at_+n) (by omega) (by omega)
 have hl:at_+n-at_=n:=by omega
 have hld:((d.take (at_+n)).drop at_)=(d.drop at_).take n:=by rw [List.drop_take];congr 1
 rw [hl] at hrun hrd;rw [hld] at hrd
 have hrun':∀w',(Instr.slice 41 (.slice A d.length c) (some (.int .i64 (at_:Int))) (some (.int .i64 ((at_:Int)+(n:Int)))) none).run Tryz.prog w'= .ok (.slice A2 n c3) w':=fun w'=>by have:=hrun w';rw [Int.natCast_add] at this;exact this
 refine ⟨A2,c3,hrd,fun w=> ?_⟩;clear hl hld hrun hrd;go_enter Tryz.func112,Tryz.ntmps112;go_wp2_with fail;go_ret2;exact ⟨rfl,rfl⟩
def zBB (w0:World) (L:List Ent) (b:List UInt8) (kind:Int) (i:Nat) (pre:List UInt8) (at_:Nat) (e:Ending) (w':World):Prop:=
 (vX b kind i pre at_=none∧e= .returned (.tuple #[.agg #[.slice none 0 0,.int .i64 0,.slice none 0 0,.int .i64 0,.int .i64 0],.int .i64 0])∧Sep w0 w' L)∨
  ∃(x:CV) (t:Nat),vX b kind i pre at_=some (x.c,t)∧0<t∧t≤b.length∧e= .returned (.tuple #[zJ x,.int .i64 (t:Int)])∧(yE x.c.kind∧yE x.c.page∧yE x.c.count)∧Sep w0 w' (zB x.kv x.c.key::zB x.vv x.c.val::L)
theorem eX {w0 w:World} {L:List Ent} {v pv:Value} {b pre:List UInt8} (hS:Sep w0 w L) (hold:yK w0∈L) (hv:RdB w0 v b) (hp:RdB w0 pv pre) (hd:b.length≤65536) (hpl:pre.length≤65536) (at_:Nat) (ha:at_≤1000000) (kind:Int) (i:Nat):
 Calls Tryz.prog 113 #[v,.int .i64 (at_:Int),.int .i64 kind,.int .i64 (i:Int),pv] w (zBB w0 L b kind i pre at_):=by
 obtain ⟨A,c,rfl,hm⟩:=hv.form;obtain ⟨PA,pc,rfl,hpm⟩:=hp.form;have hS0:=hS.alloc 43 zeroK;unfold zeroK at*
 have i2:¬(at_:Int)<0:=by omega
 by_cases h1:b.length≤at_
 ·have HP:Hid (vX b kind i pre at_=none):=Lib.hid (zDH h1)
  have i1:(b.length:Int)≤(at_:Int):=by omega
  obtain ⟨f0,f1,f2,f3,f4⟩:=xJ hS0.blkK;obtain ⟨r0,r1,r2,r3,r4⟩:=zC hS0.blkK;have HSz:=Lib.hid hS0;clear hS0 hS;go_enter Tryz.func113,Tryz.ntmps113;go_wp2_with fail;obtain ⟨e0,e1,e2,e3,e4⟩:=zC HSz.out.blkK;refine bodyPost_ret (v:= .tuple #[.agg #[.slice none 0 0,.int .i64 0,.slice none 0 0,.int .i64 0,.int .i64 0],.int .i64 0]) ?_ rfl ?_
  ·simp [results,Tryz.results113,go_sem,e0,e1,e2,e3,e4]
  ·exact .inl ⟨HP.out,rfl,HSz.out.tail⟩
 ·have i1:¬(b.length:Int)≤(at_:Int):=by omega
  obtain ⟨kb0,hkb⟩:∃kb,b[at_]? =some kb:=⟨_,List.getElem?_eq_getElem (by omega)⟩
  have hgd:b.getD at_ 0=kb0:=by rw [List.getD,hkb];rfl
  obtain ⟨ad,rfl,hcb⟩:=(hS0.rd (v:=w0) (by simp [hold]) hv).at_ (j:=at_) (by omega);rw [List.getElem?_eq_getElem (by omega)] at hkb;rw [Option.some.inj hkb] at hcb
  have j1:(at_:Int)<(b.length:Int):=by omega
  have j2:at_<b.length:=by omega
  have hkl:=kb0.toNat_lt;obtain ⟨kb,hkbn⟩:∃kb:Nat,kb0.toNat=kb:=⟨_,rfl⟩;rcases hr:ruF 0 0 (b.drop (at_+1)) with ⟨N,K,E⟩;have hR1:=fun (e:E≠0)=>zDJ (kind:=kind) (i:=i) (pre:=pre) j2 hr e;have hR2:=fun (e:E=0)=>uW (t:=at_+1) (by omega) (e▸hr);have hR3:=fun (e:E=0)=>zCU (kind:=kind) (i:=i) (pre:=pre) j2 (e▸hr);have hR4:=fun (e:E=0)=>zDX (kind:=kind) (i:=i) (pre:=pre) j2 (e▸hr);rw [hgd,hkbn] at hR4;rw [hkbn] at hcb hkl;have hru:=fun W hW=>iL b (at_+1) (by omega) N K E hr (.slice (some ad) b.length c) W hW;rw [show ((at_+1:Nat):Int)=(at_:Int)+1 by omega] at hru;have hS1:=hS0.alloc 43 [.slice none 0 0,.int .i64 (kb:Int),.slice none 0 0,.int .i64 0,.int .i64 0];rw [World.size_alloc] at hS1
  have hkw:IntKind.i64.wrap ((kb:Nat):Int)=((kb:Nat):Int):=by rw [IntKind.wrap_i64];omega
  have HR1:=Lib.hid hR1;have HR2:=Lib.hid hR2;have HR3:=Lib.hid hR3;have HR4:=Lib.hid hR4;clear hkb hgd hS0 hS hr hkbn hR1 hR2 hR3 hR4;go_enter Tryz.func113,Tryz.ntmps113;go_upto_region 4 with (fail);generalize (w.alloc (.cells #[.slice none 0 0,.int .i64 0,.slice none 0 0,.int .i64 0,.int .i64 0] 43)).alloc (.cells #[.slice none 0 0,.int .i64 (kb:Int),.slice none 0 0,.int .i64 0,.int .i64 0] 43)=w1 at*;generalize w.heap.size+1=cb at*;generalize w.heap.size=rb at*;have hru1:=hru w1 (hS1.rd (v:=w0) (by simp [hold]) hv);clear hcb;generalize hT0:(bif E==0 then (at_:Int)+1+(K:Int) else 0)=T0 at*
  have hT1:E=0→T0=((at_+1+K:Nat):Int):=fun e=>by rw [←hT0,e];simp
  have HT1:=Lib.hid hT1;clear hT0 hT1;go_upto_region 5 with (first|(go_at_call 156;(with_reducible refine hru1.mono ?_);rintro e w2 ⟨rfl,rfl⟩)|fail);clear hru1 hru
  by_cases hE:E≠0
  ·have hnb:(E !=0)=true:=by simp only [bne,beq_eq_false_iff_ne.2 hE];rfl
   have HP:=Lib.hid (HR1.out hE);clear hE HR1 HR2 HR3 HR4 HT1;have HSz:=Lib.hid (Sep.set5 (Sep.sw1 hS1) (.slice none 0 0) (.int .i64 0) (.slice none 0 0) (.int .i64 0) (.int .i64 0));obtain ⟨f0,f1,f2,f3,f4⟩:=xJ (Sep.blkK (Sep.sw1 hS1));obtain ⟨r0,r1,r2,r3,r4⟩:=zC (Sep.blkK (Sep.sw1 hS1));clear hS1;go_wp2_with fail;obtain ⟨e0,e1,e2,e3,e4⟩:=zC HSz.out.blkK;refine bodyPost_ret (v:= .tuple #[.agg #[.slice none 0 0,.int .i64 0,.slice none 0 0,.int .i64 0,.int .i64 0],.int .i64 0]) ?_ rfl ?_
   ·simp [results,Tryz.results113,go_sem,e0,e1,e2,e3,e4]
   ·exact .inl ⟨HP.out,rfl,HSz.out.sub (by first|exact List.Sublist.cons _ (List.Sublist.cons _ (List.Sublist.refl _))|exact List.Sublist.cons _ (List.Sublist.cons _ (List.Sublist.cons _ (List.Sublist.refl _)))|exact List.Sublist.cons _ (List.Sublist.cons _ (List.Sublist.cons _ (List.Sublist.cons _ (List.Sublist.refl _)))))⟩
  ·have hE0:E=0:=Decidable.not_not.1 hE;subst hE0;obtain ⟨hK1,hK2,hN⟩:=HR2.out rfl;have hR3:=HR3.out rfl;have hR4:=HR4.out rfl;have hT:=HT1.out rfl;subst hT;generalize ht1:at_+1+K=t1 at*;clear hE HR1 HR2 HR3 HR4 HT1 hK1 ht1
   by_cases hf:b.length<t1+N
   ·have hpt:=nR w0 b hd t1 hK2 N (.slice (some ad) b.length c) w2 hv hf;have HP:=Lib.hid (hR3 hf);clear hf hR3 hR4;go_upto_region 8 with (first|(go_at_call 112;(with_reducible refine hpt.mono ?_);rintro e w3 ⟨rfl,rfl⟩)|fail);clear hpt;have HSz:=Lib.hid (Sep.set5 (Sep.sw1 hS1) (.slice none 0 0) (.int .i64 0) (.slice none 0 0) (.int .i64 0) (.int .i64 0));obtain ⟨f0,f1,f2,f3,f4⟩:=xJ (Sep.blkK (Sep.sw1 hS1));obtain ⟨r0,r1,r2,r3,r4⟩:=zC (Sep.blkK (Sep.sw1 hS1));clear hS1;go_wp2_with fail;obtain ⟨e0,e1,e2,e3,e4⟩:=zC HSz.out.blkK;refine bodyPost_ret (v:= .tuple #[.agg #[.slice none 0 0,.int .i64 0,.slice none 0 0,.int .i64 0,.int .i64 0],.int .i64 0]) ?_ rfl ?_
    ·simp [results,Tryz.results113,go_sem,e0,e1,e2,e3,e4]
    ·exact .inl ⟨HP.out,rfl,HSz.out.sub (by first|exact List.Sublist.cons _ (List.Sublist.cons _ (List.Sublist.refl _))|exact List.Sublist.cons _ (List.Sublist.cons _ (List.Sublist.cons _ (List.Sublist.refl _)))|exact List.Sublist.cons _ (List.Sublist.cons _ (List.Sublist.cons _ (List.Sublist.cons _ (List.Sublist.refl _)))))⟩
   ·obtain ⟨RA,rc,hrr,hpt⟩:=nM w0 b hd t1 N (.slice (some ad) b.length c) hv (by omega);have hpt:=hpt w2;go_upto_region 8 with (first|(go_at_call 112;(with_reducible refine hpt.mono ?_);rintro e w3 ⟨rfl,rfl⟩)|fail);clear hpt;have hR5:=hR4 hf
    have hrl:((b.drop t1).take N).length=N:=by rw [List.length_take,List.length_drop];omega
    have hN2:t1+N≤b.length:=by omega
    generalize (b.drop t1).take N=r at*
    obtain ⟨P2,hP2⟩:∃P2,(if kind=3∧i=0 then [] else pre)=P2:=⟨_,rfl⟩
    have hP2l:P2.length≤65536:=by rw [←hP2];split;(simp);exact hpl
    rw [hP2] at hR5;have HR5:=Lib.hid hR5;have HRL:=Lib.hid hrl;clear hR3 hR4 hR5 hf hK2 hN hrl;go_upto_region 10 with (fail)
    go_cut [67] (fun s wx=>s= .bool (!decide (kind=3∧i=0))∧wx=w2)
    case first=>
     clear hP2
     by_cases h3:kind=3
     ·have e1:(kind !=3)=false:=by simp [h3]
      by_cases h0:i=0
      ·have e2:¬(0:Int)<(i:Int):=by omega
       have e3:(!decide (kind=3∧i=0))=false:=by simp [h3,h0]
       have e3:=Lib.hid e3;clear h3 h0;go_wp2_with fail;go_meet;exact ⟨by rw [e3.out];congr 1;exact decide_eq_false (by omega),rfl⟩
      ·have e2:(0:Int)<(i:Int):=by omega
       have e3:(!decide (kind=3∧i=0))=true:=by simp [h0]
       have e3:=Lib.hid e3;clear h3 h0;go_wp2_with fail;go_meet;exact ⟨by rw [e3.out];congr 1;exact decide_eq_true (by omega),rfl⟩
     ·have e1:(kind !=3)=true:=by simp [h3]
      have e3:(!decide (kind=3∧i=0))=true:=by simp [h3]
      have e3:=Lib.hid e3;clear h3;go_wp2_with fail;go_meet;exact ⟨by rw [e3.out],rfl⟩
    case rest=>
     obtain ⟨rfl,rfl⟩:=hcut
     go_upto_if 67 with (fail)
     go_cut [] (fun wx=>∃KA ka,Sep w0 wx (zB (.slice KA P2.length ka) P2::z7 cb 43 [.slice KA P2.length ka,.int .i64 (kb:Int),.slice none 0 0,.int .i64 0,.int .i64 0]::z7 rb 43 [.slice none 0 0,.int .i64 0,.slice none 0 0,.int .i64 0,.int .i64 0]::L))
     case first=>
      have hS6:Sep w0 wc (zB (.slice none 0 0) []::z7 cb 43 [.slice none 0 0,.int .i64 (kb:Int),.slice none 0 0,.int .i64 0,.int .i64 0]::z7 rb 43 [.slice none 0 0,.int .i64 0,.slice none 0 0,.int .i64 0,.int .i64 0]::L):=hS1.nil
      by_cases hq:kind=3∧i=0
      ·rw [if_pos hq] at hP2;subst hP2
       have e3:(!decide (kind=3∧i=0))=false:=by simp [hq]
       rw [e3];clear e3 hq;go_wp2_with fail;go_meet;exact ⟨none,0,hS6⟩
      ·rw [if_neg hq] at hP2;subst hP2
       have e3:(!decide (kind=3∧i=0))=true:=by simp only [hq];rfl
       rw [e3];have had:=yL hS6 (RdIn.old hp (by simp [hold])) (by simp;omega);rw [List.nil_append] at had;clear e3 hq hS6 hS1
       go_wp2_with (first
        |(go_at_call 124;(with_reducible refine had.mono ?_);rintro e w8 ⟨v8,rfl,hS8⟩;have ho8:OwB w8 0 v8 pre:=hS8.head;obtain ⟨KA,ka,rfl⟩:=Own.slice ho8;have hCb8:OBlk w8 cb 43 _:=hS8.tail.head;have f0:=hCb8.frozen (j:=0) (by simp);have y0':=hCb8.cell' (j:=0) (u:= .slice none 0 0) rfl)
        |fail)
       go_meet;exact ⟨KA,ka,(hS8.sw1.setCell 0 _).sw1⟩
     case rest=>
      obtain ⟨KA,ka,hS6⟩:=hcut;clear hS1 hP2;have hCb:OBlk wc cb 43 _:=hS6.tail.head;have y0:=hCb.cell' (j:=0) (u:= .slice KA P2.length ka) rfl;have had:=yL hS6 (RdIn.old hrr (by simp [hold])) (by rw [HRL.out];omega);obtain ⟨kl,hkl0⟩:∃kl,(P2++r).length=kl:=⟨_,rfl⟩;have HKL:=Lib.hid hkl0
      have hkl9:(P2++r).length≤131072:=by rw [List.length_append,HRL.out];omega
      clear hS6 hkl0
      go_upto_region 13 with (first
       |(go_at_call 124;(with_reducible refine had.mono ?_);rintro e w8 ⟨v8,rfl,hS8⟩;have ho8:OwB w8 0 v8 (P2++r):=hS8.head;obtain ⟨JA,ja,hJ⟩:=Own.slice ho8;rw [HKL.out] at hJ;subst hJ;have hCb8:OBlk w8 cb 43 _:=hS8.tail.head;have f0:=hCb8.frozen (j:=0) (by simp);have y0':=hCb8.cell' (j:=0) (u:= .slice KA P2.length ka) rfl)
       |fail)
      have hS9:=(hS8.sw1.setCell 0 (.slice JA kl ja)).sw1;clear hS8 hCb hCb8 y0 y0' f0 had hrr ho8 hP2l hp hpm;generalize P2++r=key at*;obtain rfl:key.length=kl:=HKL.out;clear HKL HRL;generalize w8.setCell ⟨cb,0,none⟩ (.slice JA key.length ja)=w9 at*
      have e5:IntKind.i64.wrap ((t1:Int)+(N:Int))=(t1:Int)+(N:Int):=by rw [IntKind.wrap_i64];omega
      rcases hr2:ruF 0 0 (b.drop (t1+N)) with ⟨M,J,E⟩;have hru:=iL b (t1+N) hN2 M J E hr2 (.slice (some ad) b.length c) w9 (hS9.rd (v:=w0) (by simp [hold]) hv);rw [show ((t1+N:Nat):Int)=(t1:Int)+(N:Int) by omega] at hru;generalize hT0:(bif E==0 then (t1:Int)+(N:Int)+(J:Int) else 0)=T0 at*
      have hT1:E=0→T0=((t1+N+J:Nat):Int):=fun e=>by rw [←hT0,e];simp
      have HT1:=Lib.hid hT1;have HU2:=Lib.hid hr2;clear hT0 hT1 hr2;go_upto_region 15 with (first|(go_at_call 156;(with_reducible refine hru.mono ?_);rintro e w10 ⟨rfl,rfl⟩)|fail);clear hru
      by_cases hE:E≠0
      ·have hnb:(E !=0)=true:=by simp only [bne,beq_eq_false_iff_ne.2 hE];rfl
       have HP:Hid (vX b kind i pre at_=none):=Lib.hid (by rw [HR5.out];exact zDR HU2.out hE);clear hE HR5 HT1 HU2;have HSz:=Lib.hid (Sep.set5 (Sep.sw2 hS9) (.slice none 0 0) (.int .i64 0) (.slice none 0 0) (.int .i64 0) (.int .i64 0));obtain ⟨f0,f1,f2,f3,f4⟩:=xJ (Sep.blkK (Sep.sw2 hS9));obtain ⟨r0,r1,r2,r3,r4⟩:=zC (Sep.blkK (Sep.sw2 hS9));clear hS9;go_wp2_with fail;obtain ⟨e0,e1,e2,e3,e4⟩:=zC HSz.out.blkK;refine bodyPost_ret (v:= .tuple #[.agg #[.slice none 0 0,.int .i64 0,.slice none 0 0,.int .i64 0,.int .i64 0],.int .i64 0]) ?_ rfl ?_
       ·simp [results,Tryz.results113,go_sem,e0,e1,e2,e3,e4]
       ·exact .inl ⟨HP.out,rfl,HSz.out.sub (by first|exact List.Sublist.cons _ (List.Sublist.cons _ (List.Sublist.refl _))|exact List.Sublist.cons _ (List.Sublist.cons _ (List.Sublist.cons _ (List.Sublist.refl _)))|exact List.Sublist.cons _ (List.Sublist.cons _ (List.Sublist.cons _ (List.Sublist.cons _ (List.Sublist.refl _)))))⟩
      ·have hE0:E=0:=Decidable.not_not.1 hE;subst hE0;obtain ⟨hJ1,hJ2,hM⟩:=uW hN2 HU2.out;have hT:=HT1.out rfl;subst hT;obtain ⟨t2,ht2⟩:∃t2,t1+N+J=t2:=⟨_,rfl⟩
       have ht20:0<t2:=by omega
       rw [ht2] at hJ2⊢;obtain ⟨y0,y1,y2,y3,y4⟩:=zC (show OBlk w10 cb 43 [.slice JA key.length ja,.int .i64 (kb:Int),.slice none 0 0,.int .i64 0,.int .i64 0] from hS9.tail.head);clear hE HT1
       by_cases hk1:kb=1
       ·subst hk1;have hno:=fun h=>zBW (key:=key) HU2.out (rfl:(1:Int)=1) h;have hso:=fun h=>zC0 (key:=key) HU2.out (rfl:(1:Int)=1) h;rw [ht2] at hno hso;have HNO:=Lib.hid hno;have HSO:=Lib.hid hso;clear hno hso ht2 HU2
        by_cases hf:b.length<t2+M
        ·have hpt:=nR w0 b hd t2 hJ2 M (.slice (some ad) b.length c) w10 hv hf;go_upto_region 19 with (first|(go_at_call 112;(with_reducible refine hpt.mono ?_);rintro e w11 ⟨rfl,rfl⟩)|fail);clear hpt;have HP:Hid (vX b kind i pre at_=none):=Lib.hid (by rw [HR5.out];exact HNO.out hf);clear hf HR5 HNO HSO y0 y1 y2 y3 y4;have HSz:=Lib.hid (Sep.set5 (Sep.sw2 hS9) (.slice none 0 0) (.int .i64 0) (.slice none 0 0) (.int .i64 0) (.int .i64 0));obtain ⟨f0,f1,f2,f3,f4⟩:=xJ (Sep.blkK (Sep.sw2 hS9));obtain ⟨r0,r1,r2,r3,r4⟩:=zC (Sep.blkK (Sep.sw2 hS9));clear hS9;go_wp2_with fail;obtain ⟨e0,e1,e2,e3,e4⟩:=zC HSz.out.blkK;refine bodyPost_ret (v:= .tuple #[.agg #[.slice none 0 0,.int .i64 0,.slice none 0 0,.int .i64 0,.int .i64 0],.int .i64 0]) ?_ rfl ?_
         ·simp [results,Tryz.results113,go_sem,e0,e1,e2,e3,e4]
         ·exact .inl ⟨HP.out,rfl,HSz.out.sub (by first|exact List.Sublist.cons _ (List.Sublist.cons _ (List.Sublist.refl _))|exact List.Sublist.cons _ (List.Sublist.cons _ (List.Sublist.cons _ (List.Sublist.refl _)))|exact List.Sublist.cons _ (List.Sublist.cons _ (List.Sublist.cons _ (List.Sublist.cons _ (List.Sublist.refl _)))))⟩
        ·obtain ⟨VA,vc,hvr,hpt⟩:=nM w0 b hd t2 M (.slice (some ad) b.length c) hv (by omega);have hpt:=hpt w10;go_upto_region 19 with (first|(go_at_call 112;(with_reducible refine hpt.mono ?_);rintro e w11 ⟨rfl,rfl⟩)|fail);clear hpt;have HP:Hid (vX b kind i pre at_=some (⟨key,1,(b.drop t2).take M,0,0⟩,t2+M)):=Lib.hid (by rw [HR5.out];exact HSO.out hf)
         have hvl:((b.drop t2).take M).length=M:=by rw [List.length_take,List.length_drop];omega
         have hM2:t2+M≤b.length:=by omega
         generalize (b.drop t2).take M=val at*;obtain rfl:val.length=M:=hvl;have had:=yL (hS9.nil) (RdIn.old hvr (by simp [hold])) (by simp;omega);rw [List.nil_append] at had;clear hf HR5 HNO HSO y0 y1 y2 y3 y4
         go_upto_region 22 with (first
          |(go_at_call 124;(with_reducible refine had.mono ?_);rintro e w12 ⟨v12,rfl,hS12⟩;have ho12:OwB w12 0 v12 val:=hS12.head;obtain ⟨WA,wa,rfl⟩:=Own.slice ho12;have hCb12:OBlk w12 cb 43 _:=hS12.tail.tail.head;have f2:=hCb12.frozen (j:=2) (by simp);have y2':=hCb12.cell' (j:=2) (u:= .slice none 0 0) rfl)
          |fail)
         have hS13:=(hS12.sw2).setCell 2 (.slice WA val.length wa);clear hS12 hCb12 f2 y2' had ho12 hS9 hvr;simp only [List.set_cons_succ,List.set_cons_zero] at hS13;generalize w12.setCell ⟨cb,2,none⟩ (.slice WA val.length wa)=w13 at*;obtain ⟨y0,y1,y2,y3,y4⟩:=zC (Sep.blkK hS13);have hS14:=hS13.sw3;obtain ⟨f0,f1,f2,f3,f4⟩:=xJ (Sep.blkK hS14);obtain ⟨r0,r1,r2,r3,r4⟩:=zC (Sep.blkK hS14);have HS:=Lib.hid (hS14.set5 (.slice JA key.length ja) (.int .i64 1) (.slice WA val.length wa) (.int .i64 0) (.int .i64 0))
         have e6:IntKind.i64.wrap ((t2:Int)+(val.length:Int))=(t2:Int)+(val.length:Int):=by rw [IntKind.wrap_i64];omega
         clear hS13 hS14;go_wp2_with fail;obtain ⟨e0,e1,e2,e3,e4⟩:=zC HS.out.blkK;refine bodyPost_ret (v:= .tuple #[.agg #[.slice JA key.length ja,.int .i64 1,.slice WA val.length wa,.int .i64 0,.int .i64 0],.int .i64 ((t2:Int)+(val.length:Int))]) ?_ rfl ?_
         ·simp [results,Tryz.results113,go_sem,e0,e1,e2,e3,e4]
         ·refine .inr ⟨⟨.slice JA key.length ja,.slice WA val.length wa,⟨key,1,val,0,0⟩⟩,t2+val.length,HP.out,by omega,hM2,by rw [Int.natCast_add];rfl,⟨?_,?_,?_⟩,Sep.pick (L:= [_,_,_,_]) [3,2] (by decide) rfl HS.out⟩<;>(show _≤_∧_≤_;simp only;omega)
       ·have hkb:(((kb:Nat):Int)==1)=false:=beq_eq_false_iff_ne.2 (by omega)
        have hR6:vX b kind i pre at_=rH (readK.readN b key (kb:Int) M t2):=by rw [HR5.out,zB4 HU2.out (by omega),ht2]
        have HR6:=Lib.hid hR6;rcases hr3:ruF 0 0 (b.drop t2) with ⟨Q,G,E⟩;have hru:=iL b t2 hJ2 Q G E hr3 (.slice (some ad) b.length c) w10 (hS9.rd (v:=w0) (by simp [hold]) hv);generalize hT0:(bif E==0 then (t2:Int)+(G:Int) else 0)=T0 at*
        have hT1:E=0→T0=((t2+G:Nat):Int):=fun e=>by rw [←hT0,e];simp
        have HT1:=Lib.hid hT1;have HU3:=Lib.hid hr3;clear hT0 hT1 hr3 hR6 HR5 HU2 ht2 hk1;go_upto_region 24 with (first|(go_at_call 156;(with_reducible refine hru.mono ?_);rintro e w11 ⟨rfl,rfl⟩)|fail);clear hru
        by_cases hE:E≠0
        ·have hnb:(E !=0)=true:=by simp only [bne,beq_eq_false_iff_ne.2 hE];rfl
         have HP:Hid (vX b kind i pre at_=none):=Lib.hid (by rw [HR6.out];exact zC9 HU3.out hE);clear hE HR6 HT1 HU3 y0 y1 y2 y3 y4;have HSz:=Lib.hid (Sep.set5 (Sep.sw2 hS9) (.slice none 0 0) (.int .i64 0) (.slice none 0 0) (.int .i64 0) (.int .i64 0));obtain ⟨f0,f1,f2,f3,f4⟩:=xJ (Sep.blkK (Sep.sw2 hS9));obtain ⟨r0,r1,r2,r3,r4⟩:=zC (Sep.blkK (Sep.sw2 hS9));clear hS9;go_wp2_with fail;obtain ⟨e0,e1,e2,e3,e4⟩:=zC HSz.out.blkK;refine bodyPost_ret (v:= .tuple #[.agg #[.slice none 0 0,.int .i64 0,.slice none 0 0,.int .i64 0,.int .i64 0],.int .i64 0]) ?_ rfl ?_
         ·simp [results,Tryz.results113,go_sem,e0,e1,e2,e3,e4]
         ·exact .inl ⟨HP.out,rfl,HSz.out.sub (by first|exact List.Sublist.cons _ (List.Sublist.cons _ (List.Sublist.refl _))|exact List.Sublist.cons _ (List.Sublist.cons _ (List.Sublist.cons _ (List.Sublist.refl _)))|exact List.Sublist.cons _ (List.Sublist.cons _ (List.Sublist.cons _ (List.Sublist.cons _ (List.Sublist.refl _)))))⟩
        ·have hE0:E=0:=Decidable.not_not.1 hE;subst hE0;obtain ⟨hG1,hG2,hQ⟩:=uW hJ2 HU3.out;have hT:=HT1.out rfl;subst hT;clear hE HT1
         by_cases hm1:65536<M
         ·have q1:(65536:Int)<(M:Int):=by omega
          have HP:Hid (vX b kind i pre at_=none):=Lib.hid (by rw [HR6.out];exact tS HU3.out (.inl hm1));clear HR6 HU3 y0 y1 y2 y3 y4;have HSz:=Lib.hid (Sep.set5 (Sep.sw2 hS9) (.slice none 0 0) (.int .i64 0) (.slice none 0 0) (.int .i64 0) (.int .i64 0));obtain ⟨f0,f1,f2,f3,f4⟩:=xJ (Sep.blkK (Sep.sw2 hS9));obtain ⟨r0,r1,r2,r3,r4⟩:=zC (Sep.blkK (Sep.sw2 hS9));clear hS9;go_wp2_with fail;obtain ⟨e0,e1,e2,e3,e4⟩:=zC HSz.out.blkK;refine bodyPost_ret (v:= .tuple #[.agg #[.slice none 0 0,.int .i64 0,.slice none 0 0,.int .i64 0,.int .i64 0],.int .i64 0]) ?_ rfl ?_
          ·simp [results,Tryz.results113,go_sem,e0,e1,e2,e3,e4]
          ·exact .inl ⟨HP.out,rfl,HSz.out.sub (by first|exact List.Sublist.cons _ (List.Sublist.cons _ (List.Sublist.refl _))|exact List.Sublist.cons _ (List.Sublist.cons _ (List.Sublist.cons _ (List.Sublist.refl _)))|exact List.Sublist.cons _ (List.Sublist.cons _ (List.Sublist.cons _ (List.Sublist.cons _ (List.Sublist.refl _)))))⟩
         ·have q1:¬(65536:Int)<(M:Int):=by omega
          by_cases hm2:1073741824<Q
          ·have q2:(1073741824:Int)<(Q:Int):=by omega
           have HP:Hid (vX b kind i pre at_=none):=Lib.hid (by rw [HR6.out];exact tS HU3.out (.inr hm2));clear HR6 HU3 y0 y1 y2 y3 y4;have HSz:=Lib.hid (Sep.set5 (Sep.sw2 hS9) (.slice none 0 0) (.int .i64 0) (.slice none 0 0) (.int .i64 0) (.int .i64 0));obtain ⟨f0,f1,f2,f3,f4⟩:=xJ (Sep.blkK (Sep.sw2 hS9));obtain ⟨r0,r1,r2,r3,r4⟩:=zC (Sep.blkK (Sep.sw2 hS9));clear hS9;go_wp2_with fail;obtain ⟨e0,e1,e2,e3,e4⟩:=zC HSz.out.blkK;refine bodyPost_ret (v:= .tuple #[.agg #[.slice none 0 0,.int .i64 0,.slice none 0 0,.int .i64 0,.int .i64 0],.int .i64 0]) ?_ rfl ?_
           ·simp [results,Tryz.results113,go_sem,e0,e1,e2,e3,e4]
           ·exact .inl ⟨HP.out,rfl,HSz.out.sub (by first|exact List.Sublist.cons _ (List.Sublist.cons _ (List.Sublist.refl _))|exact List.Sublist.cons _ (List.Sublist.cons _ (List.Sublist.cons _ (List.Sublist.refl _)))|exact List.Sublist.cons _ (List.Sublist.cons _ (List.Sublist.cons _ (List.Sublist.cons _ (List.Sublist.refl _)))))⟩
          ·have q2:¬(1073741824:Int)<(Q:Int):=by omega
           have HP:Hid (vX b kind i pre at_=some (⟨key,(kb:Int),[],(M:Int),(Q:Int)⟩,t2+G)):=Lib.hid (by rw [HR6.out];exact zF4 HU3.out hm1 hm2)
           have e6:IntKind.i64.wrap (M:Int)=(M:Int):=by rw [IntKind.wrap_i64];omega
           have e7:IntKind.i64.wrap (Q:Int)=(Q:Int):=by rw [IntKind.wrap_i64];omega
           have hC9:OBlk w11 cb 43 _:=hS9.tail.head;obtain ⟨g0,g1,g2,g3,g4⟩:=xJ hC9;have hS11:=(hS9.sw1.setCell 3 (.int .i64 (M:Int))).setCell 4 (.int .i64 (Q:Int));simp only [List.set_cons_succ,List.set_cons_zero] at hS11;clear HR6 HU3 hS9 hC9;go_upto_region 28 with (fail);generalize (w11.setCell ⟨cb,3,none⟩ (.int .i64 (M:Int))).setCell ⟨cb,4,none⟩ (.int .i64 (Q:Int))=w13 at*;clear y0 y1 y2 y3 y4 g0 g1 g2 g3 g4;obtain ⟨y0,y1,y2,y3,y4⟩:=zC (Sep.blkK hS11);have hS14:=hS11.sw2;obtain ⟨f0,f1,f2,f3,f4⟩:=xJ (Sep.blkK hS14);obtain ⟨r0,r1,r2,r3,r4⟩:=zC (Sep.blkK hS14);have HS:=Lib.hid (hS14.set5 (.slice JA key.length ja) (.int .i64 (kb:Int)) (.slice none 0 0) (.int .i64 (M:Int)) (.int .i64 (Q:Int)));clear hS11 hS14;go_wp2_with fail;obtain ⟨e0,e1,e2,e3,e4⟩:=zC HS.out.blkK;refine bodyPost_ret (v:= .tuple #[.agg #[.slice JA key.length ja,.int .i64 (kb:Int),.slice none 0 0,.int .i64 (M:Int),.int .i64 (Q:Int)],.int .i64 ((t2+G:Nat):Int)]) ?_ rfl ?_
           ·simp [results,Tryz.results113,go_sem,e0,e1,e2,e3,e4]
           ·have hS15:=HS.out.nil;refine .inr ⟨⟨.slice JA key.length ja,.slice none 0 0,⟨key,(kb:Int),[],(M:Int),(Q:Int)⟩⟩,t2+G,HP.out,by omega,hG2,rfl,⟨?_,?_,?_⟩,Sep.pick (L:= [_,_,_,_]) [3,0] (by decide) rfl hS15⟩<;>(show _≤_∧_≤_;simp only;omega)
def pw (j:Nat):Int:=512*2^j
theorem mR (p:Int):nC p↔∃j,j<8∧p=pw j:=by
 unfold nC pw
 constructor
 ·rintro (h|h|h|h|h|h|h|h)
  ·exact ⟨0,by omega,h⟩
  ·exact ⟨1,by omega,h⟩
  ·exact ⟨2,by omega,h⟩
  ·exact ⟨3,by omega,h⟩
  ·exact ⟨4,by omega,h⟩
  ·exact ⟨5,by omega,h⟩
  ·exact ⟨6,by omega,h⟩
  ·exact ⟨7,by omega,h⟩
 ·rintro ⟨j,hj,rfl⟩;rcases (by omega:j=0∨j=1∨j=2∨j=3∨j=4∨j=5∨j=6∨j=7) with rfl|rfl|rfl|rfl|rfl|rfl|rfl|rfl<;>simp
end Go.Proofs.YtfcnkpofcekmgaaGreat
