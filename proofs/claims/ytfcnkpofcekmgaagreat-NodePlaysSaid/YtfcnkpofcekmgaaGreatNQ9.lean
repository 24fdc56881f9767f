/- Texts joined. -/
import Derived.Test.YtfcnkpofcekmgaaGreatNQ8
set_option maxRecDepth 100000
set_option maxHeartbeats 64000000
namespace Go.Proofs.YtfcnkpofcekmgaaGreat
open Go.RowKit
theorem zEE {w0 w:World} {L:List Ent} {p P:Nat} {kind:Int} {u:Value} {l:List CV} (hS:Sep w0 w (pgE p kind P (zW (pcs l):Nat) u l::L)) (hr:RngC l) (hk:Wk kind P (pcs l)) (hP:P≤65536) (x:CV) (hx:XIn L x) (i:Int) (hi64:yE i):
 Calls Tryz.prog 205 #[.pointer (some ⟨p,0,none⟩),.int .i64 i,zJ x] w (eL w0 L p P kind (vU kind P (pcs l) i 1 x.c) (gI kind P (pcs l) i 1 x.c)):=by
 have hlen:=hk.len hP;rw [zA] at hlen;have hsz:=hk.size;have hS0:=hS.pgOpen;have hS1:=hS0.alloc 43 [x.kv,.int .i64 x.c.kind,x.vv,.int .i64 x.c.page,.int .i64 x.c.count]
 have hxm:∀E∈L,E∈(z7 w.heap.size 43 [x.kv,.int .i64 x.c.kind,x.vv,.int .i64 x.c.page,.int .i64 x.c.count]::z7 p 144 [.int .i64 kind,.int .i64 (P:Int),.int .i64 (zW (pcs l):Nat),u]::zP 43 5 u l.length (zF l)::(zG l++L)):=fun E hE=>by simp [hE]
 have hx1:=hx.ok hS1 hxm;have hrd:=hS1.openRd (u:=u) (l:=l) (by simp) (fun E hE=>by simp [hE]) hr;obtain ⟨U,uc,rfl,hm,hc⟩:=hrd.slice;have hbp:OBlk _ p 144 [.int .i64 kind,.int .i64 (P:Int),.int .i64 (zW (pcs l):Nat),.slice U l.length uc]:=hS1.tail.head;obtain ⟨b0,b1,b2,b3⟩:=xP hbp
 by_cases hin:i<0∨(l.length:Int)≤i
 ·have hz:vU kind P (pcs l) i 1 x.c=64:=nD (by rw [zA];omega);rw [hz];have HL2:Hid (pcs l=gI kind P (pcs l) i 1 x.c):=Lib.hid (by rw [fD (by rw [hz];omega)]);have hS2:=hS1.tail;clear hz hS1 hx1 hrd hbp hxm hS hS0;unfold zJ;rcases hin with h|h
  ·go_enter Tryz.func205,Tryz.ntmps205;go_wp2_with fail;go_ret;exact ⟨_,l,rfl,HL2.out,hr,hS2.pgClose⟩
  ·have h':¬i<0:=by omega
   go_enter Tryz.func205,Tryz.ntmps205;go_wp2_with fail;go_ret;exact ⟨_,l,rfl,HL2.out,hr,hS2.pgClose⟩
 ·obtain ⟨k,rfl⟩:∃k:Nat,i=(k:Int):=⟨i.toNat,by omega⟩
  have hkl:k<l.length:=by omega
  have hz:vU kind P (pcs l) (k:Int) 1 x.c=bK kind P (pcs l) k 1 x.c:=lX (by rw [zA];omega)
  have hkp:k<(pcs l).length:=by rw [zA];exact hkl
  have hpk:(pcs l)[k]=l[k].c:=zV hkl
  have hlz:2+z9 l[k].c≤zW (pcs l):=by have:=wM (List.getElem_mem hkp);rw [hpk] at this;exact this
  have hrf:∀W,PgAt W p kind P (zW (pcs l):Nat) (.slice U l.length uc) l→x.ok W→Calls Tryz.prog 208 #[.pointer (some ⟨p,0,none⟩),.int .i64 (k:Int),.int .i64 ((k:Int)+1),zJ x,.int .i64 (2+(z9 l[k].c:Int))] W fun e w'=>e= .returned (.int .i64 (vU kind P (pcs l) (k:Int) 1 x.c))∧Below W.heap.size W w':=fun W hPW hxW=>by
   have:=pQ hPW hP x hxW (by have:=hx.s1;have:=hx.s2;omega) k (k+1) (by omega) (by omega) (2+(z9 l[k].c:Int)) (by omega) (by omega) (by omega) (by omega)
   have e2:=zF3 (kind:=kind) (P:=P) (c:=x.c) hkp;rw [hpk] at e2;rw [hz,e2];exact this
  have HL2:Hid (vU kind P (pcs l) (k:Int) 1 x.c≠0→pcs l=gI kind P (pcs l) (k:Int) 1 x.c):=Lib.hid (fun e=>by rw [fD e])
  have HL3:Hid (vU kind P (pcs l) (k:Int) 1 x.c=0→(∀y:CV,y.c=x.c→pcs (l.take k++y::l.drop (k+1))=gI kind P (pcs l) (k:Int) 1 x.c)∧(∀y:CV,y.c=x.c→((zW (pcs (l.take k++y::l.drop (k+1))):Nat):Int)=(zW (pcs l):Nat)+((2+(z9 x.c:Int))-(2+(z9 l[k].c:Int))))∧z9 x.c≤65536):=Lib.hid (fun e=>by
   refine ⟨fun y hy=> ?_,fun y hy=> ?_,?_⟩
   ·rw [dF e]
    have:=bJ l k 1 y
    rw [hy] at this;exact this
   ·have:=bJ l k 1 y
    rw [hy] at this;rw [this]
    have:=cA (pcs l) x.c hkp
    rw [hpk] at this;omega
   ·exact cV (xY (dZ (by rw [←hz];exact e))) hP)
  have hlen3:(l.take k++l[k]::l.drop (k+1)).length=l.length:=by simp only [List.length_append,List.length_cons,List.length_take,List.length_drop];omega
  have hzx:=hrd.ok _ (List.getElem_mem hkl);obtain ⟨ad,hUad,q0,q1,q2,q3,q4⟩:=hrd.at_ hkl;obtain ⟨ug,rfl⟩:=Own.some5 (hS1.tail.tail.head:Own _ 0 43 5 (.slice U l.length uc) l.length (zF l)) (by omega);have hUad':ad=⟨ug,0,none⟩:=(Option.some.inj hUad).symm;subst hUad';simp only [vH,Nat.zero_add] at q0 q1 q2 q3 q4;have hloz:∀W,l[k].ok W→Calls Tryz.prog 128 #[zJ l[k]] W fun e w'=>e= .returned (.int .i64 (z9 l[k].c:Nat))∧Below W.heap.size W w':=fun W hW=>qV l[k] W hW (by have:l[k].c.key.length+l[k].c.val.length≤131072:=gU (xY (hk.may _ (by rw [←hpk];exact List.getElem_mem hkp))) hP;omega);generalize hzk:l[k]=z at*;generalize vU kind P (pcs l) (k:Int) 1 x.c=Z at*;generalize gI kind P (pcs l) (k:Int) 1 x.c=lp at*;have HZ0:∃s,Hid (zW (pcs l)=s)∧zW (pcs l)=s:=⟨_,Lib.hid rfl,rfl⟩;obtain ⟨sz,HSZ,hsz2⟩:=HZ0;simp only [hsz2] at hsz hS1 hrf hbp b2 HL3 hx1 hxm hlz;clear hsz2;have hlo:∀W,x.ok W→Calls Tryz.prog 128 #[zJ x] W fun e w'=>e= .returned (.int .i64 (z9 x.c:Nat))∧Below W.heap.size W w':=fun W hW=>qV x W hW (by have:=hx.s1;have:=hx.s2;omega)
  have i1:¬(k:Int)<0:=by omega
  have i2:¬(l.length:Int)≤(k:Int):=by omega
  have i2':(k:Int)<(l.length:Int):=by omega
  clear hz hin hS hS0 hk hrd hpk hkp hUad hzk;obtain ⟨KA,ka,VA,va,key,ck,val,pg,ct,rfl,-,-⟩:=CV.form hx1;obtain ⟨KB,kb,VB,vb,zkey,zck,zval,zpg,zct,rfl,-,-⟩:=CV.form hzx;simp only at hx1 hS1 HL2 HL3 hxm hrf hlo hloz hlz q0 q1 q2 q3 q4⊢;unfold zJ at hrf hlo hloz⊢;simp only at hrf hlo hloz⊢;have HLO:=Lib.hid hlo;have HLZ:=Lib.hid hloz;have HRF:=Lib.hid hrf;have HX:=Lib.hid hx;clear hlo hx hloz hrf;generalize z9 ⟨key,ck,val,pg,ct⟩=lo at*;generalize z9 ⟨zkey,zck,zval,zpg,zct⟩=lz at*
  have i4:IntKind.i64.wrap ((2:Int)+(lz:Int))=(2:Int)+(lz:Int):=by rw [IntKind.wrap_i64];omega
  have i5:IntKind.i64.wrap ((k:Int)+1)=(k:Int)+1:=by rw [IntKind.wrap_i64];omega
  go_enter Tryz.func205,Tryz.ntmps205
  go_upto_region 4 with (first
   |(go_at_call 128;(with_reducible refine (HLZ.out _ hzx).mono ?_);rintro e w2 ⟨rfl,hw2⟩)
   |fail)
  have hS2:=hS1.below hw2;clear hS1 hw2 hbp b0 b1 b2 b3 hx1 hzx q0 q1 q2 q3 q4;have hC2:OBlk w2 w.heap.size 43 [.slice KA key.length ka,.int .i64 ck,.slice VA val.length va,.int .i64 pg,.int .i64 ct]:=hS2.head;obtain ⟨c0,c1,c2,c3,c4⟩:=zC hC2;have hrf2:=HRF.out w2 ⟨hS2.tail.head,hS2.openRd (by simp) (fun E hE=>by simp [hE]) hr⟩ (HX.out.ok hS2 (fun E hE=>by simp [hE]));clear hC2
  go_upto_region 5 with (first
   |(go_at_call 208;(with_reducible refine hrf2.mono ?_);rintro e w3 ⟨rfl,hw3⟩)
   |fail)
  have hS3:=hS2.below hw3;clear hS2 hw3 hrf2 c0 c1 c2 c3 c4 HRF;clear w2
  by_cases hZ:Z=0
  ·subst hZ;have HL4:=Lib.hid (HL3.out rfl);have hlo6:=HL4.out.2.2;clear HL3 HL2;have hC2:OBlk w3 w.heap.size 43 [.slice KA key.length ka,.int .i64 ck,.slice VA val.length va,.int .i64 pg,.int .i64 ct]:=hS3.head;have hB2:OBlk w3 p 144 [.int .i64 kind,.int .i64 (P:Int),.int .i64 (sz:Int),.slice (some ⟨ug,0,none⟩) l.length uc]:=hS3.tail.head;have hx2:=HX.out.ok hS3 (fun E hE=>by simp [hE]);have hpz:=hB2.lt;have hcz:=hC2.lt;obtain ⟨b0,b1,b2,b3⟩:=xP hB2;obtain ⟨c0,c1,c2,c3,c4⟩:=zC hC2;have f2:=hB2.frozen (j:=2) (by simp)
   have j1:IntKind.i64.wrap ((2:Int)+(lo:Int))=(2:Int)+(lo:Int):=by rw [IntKind.wrap_i64];omega
   have j2:IntKind.i64.wrap (((2:Int)+(lo:Int))-((2:Int)+(lz:Int)))=((2:Int)+(lo:Int))-((2:Int)+(lz:Int)):=by rw [IntKind.wrap_i64];omega
   have j3:IntKind.i64.wrap ((sz:Int)+(((2:Int)+(lo:Int))-((2:Int)+(lz:Int))))=(sz:Int)+(((2:Int)+(lo:Int))-((2:Int)+(lz:Int))):=by rw [IntKind.wrap_i64];omega
   go_upto_region 7 with (fail);obtain ⟨bx,hbx⟩:∃b,w.heap.size=b:=⟨_,rfl⟩;rw [hbx] at hS3 hC2 hcz c0 c1 c2 c3 c4⊢;clear hbx
   go_cut [] (fun wx=>Sep w0 wx (z7 p 144 [.int .i64 kind,.int .i64 (P:Int),.int .i64 ((sz:Int)+((2+(lo:Int))-(2+(lz:Int)))),.slice (some ⟨ug,0,none⟩) l.length uc]::z7 bx 43 [.slice KA key.length ka,.int .i64 ck,.slice VA val.length va,.int .i64 pg,.int .i64 ct]::zP 43 5 (.slice (some ⟨ug,0,none⟩) l.length uc) l.length (zF l)::(zG l++L)))
   case first=>
    go_region_law
     (first
      |(go_simp;go_at_call 128;refine (HLO.out _ (hx2.below ((Below.refl _ _).drew))).mono ?_;rintro e w4 ⟨rfl,hw4⟩;have hS4:=hS3.drew.below hw4;have hB3:=hB2.drew.below hw4 hpz;obtain ⟨d0,d1,d2,d3⟩:=xP hB3;have g2:=hB3.frozen (j:=2) (by simp))
      |fail)
    all_goals
     go_wp2_with fail;go_meet;exact hS4.sw1.setCell 2 (.int .i64 ((sz:Int)+((2+(lo:Int))-(2+(lz:Int)))))
   case rest=>
    have hS5:=hcut;clear hcut hS3 hC2 hB2 hx2 hpz hcz b0 b1 b2 b3 c0 c1 c2 c3 c4 f2 HLO HLZ;have hB5:OBlk wc p 144 [.int .i64 kind,.int .i64 (P:Int),.int .i64 ((sz:Int)+((2+(lo:Int))-(2+(lz:Int)))),.slice (some ⟨ug,0,none⟩) l.length uc]:=hS5.head;have hC5:OBlk wc bx 43 [.slice KA key.length ka,.int .i64 ck,.slice VA val.length va,.int .i64 pg,.int .i64 ct]:=hS5.tail.head;obtain ⟨b0,b1,b2,b3⟩:=xP hB5;obtain ⟨c0,c1,c2,c3,c4⟩:=zC hC5;have hx5:=HX.out.ok hS5.drew (fun E hE=>by simp [hE]);have hO:=l8 hS5.drew _ hx5 HX.out.s1 HX.out.s2;unfold zJ at hO;simp only at hO;clear hB5 hC5;go_upto_region 8 with (fail)
    go_region_law
     (first
      |(go_simp;go_at_call 207;refine hO.mono ?_;rintro e w6 ⟨⟨ykv,yvv,yc⟩,rfl,hyc,hS6⟩;simp only at hyc;subst hyc;obtain ⟨K2,kc,rfl⟩:=Own.slice (show OwB w6 0 ykv key from hS6.head);obtain ⟨V2,vc,rfl⟩:=Own.slice (show OwB w6 0 yvv val from hS6.tail.head);have hB6:OBlk w6 p 144 [.int .i64 kind,.int .i64 (P:Int),.int .i64 ((sz:Int)+((2+(lo:Int))-(2+(lz:Int)))),.slice (some ⟨ug,0,none⟩) l.length uc]:=hS6.tail.tail.head;obtain ⟨e0,e1,e2,e3⟩:=xP hB6;have hO6:Own w6 0 43 5 (.slice (some ⟨ug,0,none⟩) l.length uc) l.length (zF l):=(hS6.of_mem (E:=zP 43 5 (.slice (some ⟨ug,0,none⟩) l.length uc) l.length (zF l)) (by simp));obtain ⟨⟨_,r0⟩,⟨_,r1⟩,⟨_,r2⟩,⟨_,r3⟩,⟨_,r4⟩⟩:=hO6.cells5k hkl;obtain ⟨s0,s1,s2,s3,s4⟩:=hO6.froz5k hkl)
      |fail)
    all_goals
     have hset:=hO6.set5k hkl ⟨.slice K2 key.length kc,.slice V2 val.length vc,⟨key,ck,val,pg,ct⟩⟩;rw [List.set_eq_take_append_cons_drop,if_pos hkl] at hset;have hS7:=Sep.upd (E':=zP 43 5 (.slice (some ⟨ug,0,none⟩) l.length uc) l.length (zF (l.take k++(⟨.slice K2 key.length kc,.slice V2 val.length vc,⟨key,ck,val,pg,ct⟩⟩:CV)::l.drop (k+1)))) (show Sep w0 w6 (zP 43 5 (.slice (some ⟨ug,0,none⟩) l.length uc) l.length (zF l)::zB (.slice K2 key.length kc) key::zB (.slice V2 val.length vc) val::z7 p 144 [.int .i64 kind,.int .i64 (P:Int),.int .i64 ((sz:Int)+((2+(lo:Int))-(2+(lz:Int)))),.slice (some ⟨ug,0,none⟩) l.length uc]::z7 bx 43 [.slice KA key.length ka,.int .i64 ck,.slice VA val.length va,.int .i64 pg,.int .i64 ct]::(zG l++L)) from Sep.sw4 hS6) (Turn.of_grown (zF8 w6 ug k _ _ _ _ _) (fun _ e=>by rw [←Option.some.inj e];rfl)) hset (fun g hg=>⟨.inl hg,(Own.lt hset g hg).2⟩);have hS9:=Sep.csSet (by simp only [List.length_append,List.length_cons,List.length_take,List.length_drop];omega) hkl (Sep.push3 (Sep.pick (L:= [_,_,_,_,_]) [1,2,0,3] (by decide) rfl hS7));have HS9:=Lib.hid (Sep.pgShut hS9.sw1);clear hS9 hS7 hS6 hset;go_wp2_with fail;go_ret;refine ⟨.slice (some ⟨ug,0,none⟩) l.length uc,l.take k++(⟨.slice K2 key.length kc,.slice V2 val.length vc,⟨key,ck,val,pg,ct⟩⟩:CV)::l.drop (k+1),rfl,HL4.out.1 _ rfl,hr.with_ (y:=⟨.slice K2 key.length kc,.slice V2 val.length vc,⟨key,ck,val,pg,ct⟩⟩) ⟨HX.out.r1,HX.out.r2,HX.out.r3⟩ _ _,?_⟩;have h9:=HS9.out
     have e9:=HL4.out.2.1 (⟨.slice K2 key.length kc,.slice V2 val.length vc,⟨key,ck,val,pg,ct⟩⟩:CV) rfl;rw [←e9] at h9;exact h9
  ·have HZ:=Lib.hid hZ;go_wp2_with fail;go_ret;refine ⟨.slice (some ⟨ug,0,none⟩) l.length uc,l,rfl,HL2.out HZ.out,hr,?_⟩;rw [HSZ.out];exact hS3.tail.pgClose
theorem oX {w0 w:World} {L:List Ent} {p P:Nat} {kind:Int} {u:Value} {l:List CV} (hS:Sep w0 w (pgE p kind P (zW (pcs l):Nat) u l::L)) (hr:RngC l) (hk:Wk kind P (pcs l)) (hP:P≤65536) (i:Int) (hi64:yE i):
 Calls Tryz.prog 204 #[.pointer (some ⟨p,0,none⟩),.int .i64 i] w (eL w0 L p P kind (sB (pcs l) i) (cT (pcs l) i)):=by
 have hlen:=hk.len hP;rw [zA] at hlen;have hsz:=hk.size;have hS1:=hS.pgOpen;have hrd:=hS1.openRd (u:=u) (l:=l) (by simp) (fun E hE=>by simp [hE]) hr;obtain ⟨U,uc,rfl,hm,hc⟩:=hrd.slice;have hbp:OBlk _ p 144 [.int .i64 kind,.int .i64 (P:Int),.int .i64 (zW (pcs l):Nat),.slice U l.length uc]:=hS1.head;obtain ⟨b0,b1,b2,b3⟩:=xP hbp
 by_cases hin:i<0∨(l.length:Int)≤i
 ·have hz:sB (pcs l) i=64:=by unfold sB;rw [if_pos (by rw [zA];exact hin)]
  rw [hz];have HL2:Hid (pcs l=cT (pcs l) i):=Lib.hid (by unfold cT;rw [if_pos (by rw [zA];exact hin)]);clear hz hrd hbp hS;rcases hin with h|h
  ·go_enter Tryz.func204,Tryz.ntmps204;go_wp2_with fail;go_ret;exact ⟨_,l,rfl,HL2.out,hr,hS1.pgClose⟩
  ·have h':¬i<0:=by omega
   go_enter Tryz.func204,Tryz.ntmps204;go_wp2_with fail;go_ret;exact ⟨_,l,rfl,HL2.out,hr,hS1.pgClose⟩
 ·obtain ⟨k,rfl⟩:∃k:Nat,i=(k:Int):=⟨i.toNat,by omega⟩
  have hkl:k<l.length:=by omega
  have hz:sB (pcs l) (k:Int)=0:=by unfold sB;rw [if_neg (by rw [zA];exact hin)]
  have HL2:Hid (pcs (l.take k++l.drop (k+1))=cT (pcs l) (k:Int)):=Lib.hid (by unfold cT;rw [if_neg (by rw [zA];exact hin)];exact rC l k);rw [hz]
  have hkp:k<(pcs l).length:=by rw [zA];exact hkl
  have hpk:(pcs l)[k]=l[k].c:=zV hkl
  have hlz:2+z9 l[k].c≤zW (pcs l):=by have:=wM (List.getElem_mem hkp);rw [hpk] at this;exact this
  have HSZ:Hid (((zW (pcs (l.take k++l.drop (k+1))):Nat):Int)=(zW (pcs l):Nat)-(2+(z9 l[k].c:Int))):=Lib.hid (by
   have:=iZ (pcs l) hkp
   rw [rC];rw [hpk] at this
   omega)
  have hzx:=hrd.ok _ (List.getElem_mem hkl);obtain ⟨ad,hUad,q0,q1,q2,q3,q4⟩:=hrd.at_ hkl;obtain ⟨ug,rfl⟩:=Own.some5 (hS1.tail.head:Own _ 0 43 5 (.slice U l.length uc) l.length (zF l)) (by omega);have hUad':ad=⟨ug,0,none⟩:=(Option.some.inj hUad).symm;subst hUad';simp only [vH,Nat.zero_add] at q0 q1 q2 q3 q4;have hloz:∀W,l[k].ok W→Calls Tryz.prog 128 #[zJ l[k]] W fun e w'=>e= .returned (.int .i64 (z9 l[k].c:Nat))∧Below W.heap.size W w':=fun W hW=>qV l[k] W hW (by have:l[k].c.key.length+l[k].c.val.length≤131072:=gU (xY (hk.may _ (by rw [←hpk];exact List.getElem_mem hkp))) hP;omega);generalize cT (pcs l) (k:Int)=lp at*;generalize l[k]=z at*;generalize zW (pcs l)=sz at*
  have i1:¬(k:Int)<0:=by omega
  have i2:¬(l.length:Int)≤(k:Int):=by omega
  have i2':(k:Int)<(l.length:Int):=by omega
  clear hz hin hS hk hrd hpk hkp hUad;obtain ⟨KB,kb,VB,vb,zkey,zck,zval,zpg,zct,rfl,-,-⟩:=CV.form hzx;simp only at hloz hlz q0 q1 q2 q3 q4 HSZ⊢;unfold zJ at hloz;simp only at hloz;have HLZ:=Lib.hid hloz;clear hloz;generalize z9 ⟨zkey,zck,zval,zpg,zct⟩=lz at*
  have i4:IntKind.i64.wrap ((2:Int)+(lz:Int))=(2:Int)+(lz:Int):=by rw [IntKind.wrap_i64];omega
  have i5:IntKind.i64.wrap ((k:Int)+1)=(k:Int)+1:=by rw [IntKind.wrap_i64];omega
  have i6:IntKind.i64.wrap ((sz:Int)-((2:Int)+(lz:Int)))=(sz:Int)-((2:Int)+(lz:Int)):=by rw [IntKind.wrap_i64];omega
  have hpz:=hbp.lt;have f2:=hbp.frozen (j:=2) (by simp);go_enter Tryz.func204,Tryz.ntmps204;go_upto_region 3 with (fail)
  go_cut [] (fun wx=>Sep w0 wx (z7 p 144 [.int .i64 kind,.int .i64 (P:Int),.int .i64 ((sz:Int)-(2+(lz:Int))),.slice (some ⟨ug,0,none⟩) l.length uc]::zP 43 5 (.slice (some ⟨ug,0,none⟩) l.length uc) l.length (zF l)::(zG l++L)))
  case first=>
   go_region_law
    (first
     |(go_simp;go_at_call 128;refine (HLZ.out _ (hzx.below ((Below.refl _ _).drew))).mono ?_;rintro e w4 ⟨rfl,hw4⟩;have hS4:=hS1.drew.below hw4;have hB3:=hbp.drew.below hw4 hpz;obtain ⟨d0,d1,d2,d3⟩:=xP hB3;have g2:=hB3.frozen (j:=2) (by simp))
     |fail)
   all_goals
    go_wp2_with fail;go_meet;exact hS4.setCell 2 (.int .i64 ((sz:Int)-(2+(lz:Int))))
  case rest=>
   have hS5:=hcut;clear hcut hS1 hbp hzx b0 b1 b2 b3 q0 q1 q2 q3 q4 f2 HLZ hpz;have hB5:OBlk wc p 144 [.int .i64 kind,.int .i64 (P:Int),.int .i64 ((sz:Int)-(2+(lz:Int))),.slice (some ⟨ug,0,none⟩) l.length uc]:=hS5.head;obtain ⟨b0,b1,b2,b3⟩:=xP hB5;clear hB5;have hrd5:=hS5.openRd (u:= .slice (some ⟨ug,0,none⟩) l.length uc) (l:=l) (by simp) (fun E hE=>by simp [hE]) hr;have hD:=pF (w:=wc) (u:= .slice (some ⟨ug,0,none⟩) l.length uc) (l:=l) (hS5.of_mem (E:=zP 43 5 (.slice (some ⟨ug,0,none⟩) l.length uc) l.length (zF l)) (by simp)) (vB hrd5.ok) (by omega) k hkl;clear hrd5
   have hlN:(l.take k++l.drop (k+1)).length=l.length-1:=by simp only [List.length_append,List.length_take,List.length_drop];omega
   have HLN:=Lib.hid hlN;clear hlN
   go_wp2_with (first
    |(go_at_call 210;(with_reducible refine hD.mono ?_);rintro e w7 hI7;obtain ⟨v7,rfl,hS7⟩:=Sep.insAt hS5.sw1 hI7;rw [HLN.out] at hS7;obtain ⟨B7,c7,rfl⟩:=Own.slice (zFO hS7);have hB7:OBlk w7 p 144 [.int .i64 kind,.int .i64 (P:Int),.int .i64 ((sz:Int)-(2+(lz:Int))),.slice (some ⟨ug,0,none⟩) l.length uc]:=hS7.tail.head;obtain ⟨x0,x1,x2,x3⟩:=xP hB7;have g3:=hB7.frozen (j:=3) (by simp))
    |fail)
   go_ret;have hS8:=hS7.sw1.setCell 3 (.slice B7 (l.length-1) c7);simp only [List.set_cons_succ,List.set_cons_zero] at hS8;have hS9:=(Sep.csDel HLN.out hkl hS8.sw1.push1).sw1.pgShut;refine ⟨.slice B7 (l.length-1) c7,l.take k++l.drop (k+1),rfl,HL2.out,hr.rem _ _,?_⟩;rw [HSZ.out];exact hS9
theorem Sep.appended {w0 w w':World} {v v':Value} {l m:List UInt8} {L:List Ent} (h:Sep w0 w (zB v l::L)) (ho:OwB w' 0 v' m) (hg:w.grownBy w' v.ownBlock) (hk:v'.ownBlock=v.ownBlock∨v'.ownBlock=some w.heap.size):Sep w0 w' (zB v' m::L):=
 h.upd (Turn.of_grown hg (fun _ e=>e)) ho (fun g hg'=>⟨by
  rcases hk with e|e
  ·exact .inl (e.symm.trans hg':v.ownBlock=some g)
  ·right
   have:=e.symm.trans hg'
   injection this with this
   omega,(Own.lt ho g hg').2⟩)
theorem Sep.nil {w0 w:World} {L:List Ent} (h:Sep w0 w L):Sep w0 w (zB (.slice none 0 0) []::L):=
 h.cons (OwB.nil w 0) (fun g hg=>by cases hg) (fun _ _ g hg=>by cases hg)
theorem Sep.blk {w0 w:World} {g:Nat} {T:TypeId} {cs:List Value} {L:List Ent} (h:Sep w0 w (z7 g T cs::L)):OBlk w g T cs:=h.head
def fH (c:PC):Prop:=yE c.kind∧yE c.page∧yE c.count
def nF (w0:World) (L:List Ent) (z:Int) (c:PC) (e:Ending) (w':World):Prop:=
 ∃y:CV,e= .returned (.tuple #[zJ y,.int .i64 z])∧y.c=c∧fH c∧Sep w0 w' (zB y.kv y.c.key::zB y.vv y.c.val::L)
theorem Sep.pushIn2 {w0 w:World} {a b c d:Ent} {T L:List Ent} (h:Sep w0 w (a::b::c::d::(T++L))):Sep w0 w (a::b::(T++c::d::L)):=h.perm ((List.perm_append_comm_assoc [c,d] T L).cons _|>.cons _)
theorem zB3 {w0 w:World} {L:List Ent} {p P:Nat} {kind:Int} {u:Value} {l:List CV} (hS:Sep w0 w (pgE p kind P (zW (pcs l):Nat) u l::L)) (hr:RngC l) (hk:Wk kind P (pcs l)) (hP:P≤65536) (i:Int) (hi64:yE i):
 Calls Tryz.prog 199 #[.pointer (some ⟨p,0,none⟩),.int .i64 i] w (nF w0 (pgE p kind P (zW (pcs l):Nat) u l::L) (jA (pcs l) i) (xG (pcs l) i)):=by
 have hlen:=hk.len hP;rw [zA] at hlen;have hS1:=hS.pgOpen.alloc 43 [.slice none 0 0,.int .i64 0,.slice none 0 0,.int .i64 0,.int .i64 0];have hrd:=hS1.openRd (u:=u) (l:=l) (by simp) (fun E hE=>by simp [hE]) hr;obtain ⟨U,uc,rfl,hm,hc⟩:=hrd.slice;have hbp:OBlk _ p 144 [.int .i64 kind,.int .i64 (P:Int),.int .i64 (zW (pcs l):Nat),.slice U l.length uc]:=hS1.tail.head;have hbr:=hS1.blk;obtain ⟨b0,b1,b2,b3⟩:=xP hbp;obtain ⟨d0,d1,d2,d3,d4⟩:=zC hbr;obtain ⟨f0,f1,f2,f3,f4⟩:=xJ hbr
 by_cases hin:i<0∨(l.length:Int)≤i
 ·have hz:jA (pcs l) i=64:=by unfold jA;rw [if_pos (by rw [zA];exact hin)]
  have hz2:xG (pcs l) i=⟨[],0,[],0,0⟩:=by unfold xG;rw [if_pos (by rw [zA];exact hin)]
  rw [hz,hz2];have hS2:=hS1;clear hz hz2 hrd hbp hbr hS hS1
  have hfin:∀w',Sep w0 w' (z7 w.heap.size 43 [.slice none 0 0,.int .i64 0,.slice none 0 0,.int .i64 0,.int .i64 0]::z7 p 144 [.int .i64 kind,.int .i64 (P:Int),.int .i64 (zW (pcs l):Nat),.slice U l.length uc]::zP 43 5 (.slice U l.length uc) l.length (zF l)::(zG l++L))→
   nF w0 (pgE p kind P (zW (pcs l):Nat) (.slice U l.length uc) l::L) 64 ⟨[],0,[],0,0⟩ (.returned (.tuple #[.agg #[.slice none 0 0,.int .i64 0,.slice none 0 0,.int .i64 0,.int .i64 0],.int .i64 64])) w':=fun w' h=>
   ⟨⟨.slice none 0 0,.slice none 0 0,⟨[],0,[],0,0⟩⟩,rfl,rfl,(by simp [fH,yE]),(h.tail.pgClose.nil).nil⟩
  have HF:=Lib.hid hfin;have HS2:=Lib.hid hS2;clear hfin hS2;rcases hin with h|h
  ·go_enter Tryz.func199,Tryz.ntmps199;go_wp2_with fail;have hS2:=HS2.out;obtain ⟨e0,e1,e2,e3,e4⟩:=zC hS2.blk;refine bodyPost_ret (v:= .tuple #[.agg #[.slice none 0 0,.int .i64 0,.slice none 0 0,.int .i64 0,.int .i64 0],.int .i64 64]) ?_ rfl (HF.out _ hS2);simp [results,Tryz.results199,go_sem,e0,e1,e2,e3,e4]
  ·have h':¬i<0:=by omega
   go_enter Tryz.func199,Tryz.ntmps199;go_wp2_with fail;have hS2:=HS2.out;obtain ⟨e0,e1,e2,e3,e4⟩:=zC hS2.blk;refine bodyPost_ret (v:= .tuple #[.agg #[.slice none 0 0,.int .i64 0,.slice none 0 0,.int .i64 0,.int .i64 0],.int .i64 64]) ?_ rfl (HF.out _ hS2);simp [results,Tryz.results199,go_sem,e0,e1,e2,e3,e4]
 ·obtain ⟨k,rfl⟩:∃k:Nat,i=(k:Int):=⟨i.toNat,by omega⟩
  have hkl:k<l.length:=by omega
  have hkp:k<(pcs l).length:=by rw [zA];exact hkl
  have hz:jA (pcs l) (k:Int)=0:=by unfold jA;rw [if_neg (by rw [zA];exact hin)]
  have hz2:xG (pcs l) (k:Int)=l[k].c:=by unfold xG;rw [if_neg (by rw [zA];exact hin),←zV hkl];simp [List.getD,hkp]
  rw [hz,hz2];have hok:=gU (xY (hk.may (l[k].c) (by rw [←zV hkl];exact List.getElem_mem hkp))) hP;have hzx:=hrd.ok _ (List.getElem_mem hkl);obtain ⟨ad,rfl,q0,q1,q2,q3,q4⟩:=hrd.at_ hkl;have hrz:fH l[k].c:=hr _ (List.getElem_mem hkl);generalize l[k]=z at*;have hO:=l8 hS1 z hzx (by omega) (by omega)
  have i1:¬(k:Int)<0:=by omega
  have i2:¬(l.length:Int)≤(k:Int):=by omega
  have i2':(k:Int)<(l.length:Int):=by omega
  clear hz hz2 hin hS hk hrd hkp hS1 hbp hbr;obtain ⟨KB,kb,VB,vb,zkey,zck,zval,zpg,zct,rfl,-,-⟩:=CV.form hzx;unfold zJ at hO;simp only at hO hrz⊢;go_enter Tryz.func199,Tryz.ntmps199
  go_wp2_with (first
   |(go_at_call 207;(with_reducible refine hO.mono ?_);rintro e w6 ⟨⟨ykv,yvv,yc⟩,rfl,hyc,hS6⟩;simp only at hyc;subst hyc;obtain ⟨K2,kc,rfl⟩:=Own.slice (show OwB w6 0 ykv zkey from hS6.head);obtain ⟨V2,vc,rfl⟩:=Own.slice (show OwB w6 0 yvv zval from hS6.tail.head);have hB6:OBlk w6 w.heap.size 43 [.slice none 0 0,.int .i64 0,.slice none 0 0,.int .i64 0,.int .i64 0]:=hS6.tail.tail.head;obtain ⟨g0,g1,g2,g3,g4⟩:=zC hB6;obtain ⟨h0,h1,h2,h3,h4⟩:=xJ hB6)
   |fail)
  have hS7:=(Sep.sw2 hS6).set5 (.slice K2 zkey.length kc) (.int .i64 zck) (.slice V2 zval.length vc) (.int .i64 zpg) (.int .i64 zct);obtain ⟨e0,e1,e2,e3,e4⟩:=zC hS7.blk;refine bodyPost_ret (v:= .tuple #[.agg #[.slice K2 zkey.length kc,.int .i64 zck,.slice V2 zval.length vc,.int .i64 zpg,.int .i64 zct],.int .i64 0]) ?_ rfl ⟨⟨.slice K2 zkey.length kc,.slice V2 zval.length vc,⟨zkey,zck,zval,zpg,zct⟩⟩,rfl,rfl,hrz,?_⟩
  ·simp [results,Tryz.results199,go_sem,e0,e1,e2,e3,e4]
  ·have hS8:Sep w0 _ (z7 p 144 [.int .i64 kind,.int .i64 (P:Int),.int .i64 (zW (pcs l):Nat),.slice (some ad) l.length uc]::zP 43 5 (.slice (some ad) l.length uc) l.length (zF l)::zB (.slice K2 zkey.length kc) zkey::zB (.slice V2 zval.length vc) zval::(zG l++L)):=Sep.pick (L:= [_,_,_,_]) [2,3,0,1] (by decide) rfl hS7.tail;exact Sep.pick (L:= [_,_,_]) [1,2,0] (by decide) rfl hS8.pushIn2.pgClose
end Go.Proofs.YtfcnkpofcekmgaaGreat
namespace Go.Proofs.YtfcnkpofcekmgaaGreat
def zR (n:Nat):List UInt8:=if n<128 then [UInt8.ofNat n] else UInt8.ofNat (128+n%128)::zR (n/128)
theorem kL {n:Nat} (h:n<128):zR n= [UInt8.ofNat n]:=by rw [zR,if_pos h]
theorem kM {n:Nat} (h:¬n<128):zR n=UInt8.ofNat (128+n%128)::zR (n/128):=by rw [zR,if_neg h]
theorem vQ (n:Nat):1≤(zR n).length:=by
 rw [zR];split<;>simp
theorem kI:∀(k n:Nat),n<128^(k+1)→(zR n).length≤k+1
 |0,n,h=>by rw [kL (by simpa using h)];simp
 |k+1,n,h=>by
  by_cases h1:n<128
  ·rw [kL h1];simp
  ·rw [kM h1]
   have:n/128<128^(k+1):=by
    rw [Nat.div_lt_iff_lt_mul (by omega)];rw [Nat.pow_succ] at h;omega
   have:=kI k _ this
   simp;omega
theorem yF {n:Nat} (h:n<18446744073709551616):(zR n).length≤10:=kI 9 n (Nat.lt_of_lt_of_le h (by decide))
def ruF:Nat→Nat→List UInt8→Nat×Nat×Int
 |_,_,[]=>(0,0,10)
 |i,n,x::r=>
  if i=9∧1<x.toNat then (0,0,12)
  else if x.toNat=0∧0<i then (0,0,11)
  else if x.toNat<128 then (n+x.toNat%128*128^i,i+1,0)
  else ruF (i+1) (n+x.toNat%128*128^i) r
theorem zCP {i:Nat} (h:128^i<18446744073709551616):i≤9:=by
 rcases Nat.lt_or_ge 9 i with h1|h1
 ·have:128^10≤128^i:=Nat.pow_le_pow_right (by omega) h1
  have h2:128^10=1180591620717411303424:=by decide
  omega
 ·exact h1
theorem zCT:∀(i n acc:Nat) (rest:List UInt8),n*128^i<18446744073709551616→(i=0∨0<n)→i≤9→ruF i acc (zR n++rest)=(acc+n*128^i,i+(zR n).length,0):=by
 intro i n
 induction n using Nat.strongRecOn generalizing i with
 |ind n ih=>
  intro acc rest hb hn hi
  by_cases h:n<128
  ·rw [kL h]
   have ht:(UInt8.ofNat n).toNat=n:=by simp;omega
   have h9:¬(i=9∧1<n):=by
    rintro ⟨rfl,h1⟩
    have:(128:Nat)^9=9223372036854775808:=by decide
    rw [this] at hb;omega
   have h0:¬(n=0∧0<i):=by omega
   simp only [List.cons_append,List.nil_append,ruF,ht,h9,h0,if_false,h,if_true,Nat.mod_eq_of_lt h,List.length_singleton]
  ·rw [kM h]
   have ht:(UInt8.ofNat (128+n%128)).toNat=128+n%128:=by simp;omega
   have hp:(128:Nat)^(i+1)=128^i*128:=Nat.pow_succ ..;have hdiv:n=128*(n/128)+n%128:=(Nat.div_add_mod n 128).symm
   have hle:n/128*128^(i+1)≤n*128^i:=by
    rw [hp,←Nat.mul_assoc,Nat.mul_right_comm];exact Nat.mul_le_mul_right _ (by omega)
   have hq:1≤n/128:=by omega
   have hi1:i+1≤9:=by
    apply zCP
    have:128^(i+1)≤n/128*128^(i+1):=Nat.le_mul_of_pos_left _ hq
    omega
   have h9:¬(i=9∧1<128+n%128):=by omega
   have h0:¬(128+n%128=0∧0<i):=by omega
   have h2:¬(128+n%128<128):=by omega
   simp only [List.cons_append,ruF,ht,h9,h0,if_false,h2];rw [ih (n/128) (by omega) (i+1) _ rest (by omega) (.inr hq) hi1]
   have hm:(128+n%128)%128=n%128:=by omega
   rw [hm,List.length_cons]
   have e:acc+n%128*128^i+n/128*128^(i+1)=acc+n*128^i:=by
    rw [hp,Nat.add_assoc,←Nat.mul_assoc,Nat.mul_right_comm,←Nat.add_mul]
    congr 2;omega
   rw [e]
   congr 2;omega
theorem zJW (y m:Nat) (h1:y≤127) (h2:m*9223372036854775808<18446744073709551616):y*72057594037927936+m*9223372036854775808<18446744073709551616:=by
 have hm:m<2:=Nat.lt_of_mul_lt_mul_right (a:=9223372036854775808) (Nat.lt_of_lt_of_eq h2 (by decide));have h3:y*72057594037927936≤127*72057594037927936:=Nat.mul_le_mul_right _ h1;have h4:m*9223372036854775808≤1*9223372036854775808:=Nat.mul_le_mul_right _ (by omega);exact Nat.lt_of_le_of_lt (Nat.add_le_add h3 h4) (by decide)
theorem lW:∀(b:List UInt8) (i acc N K:Nat),i≤9→ruF i acc b=(N,K,0)→i<K∧K≤i+b.length∧∃m,N=acc+m*128^i∧zR m=b.take (K-i)∧(i=0∨0<m)∧m*128^i<18446744073709551616
 | [],i,acc,N,K,_,h=>by simp [ruF] at h
 |x::r,i,acc,N,K,hi,h=>by
  have hx:=x.toNat_lt
  have hp9:(128:Nat)^9=9223372036854775808:=by decide
  unfold ruF at h
  split at h
  ·simp at h
  rename_i h9
  split at h
  ·simp at h
  rename_i h0
  split at h
  ·rename_i h1
   simp only [Prod.mk.injEq] at h;obtain ⟨rfl,rfl,_⟩:=h;refine ⟨by omega,by simp,x.toNat,?_,?_,by omega,?_⟩
   ·rw [Nat.mod_eq_of_lt h1]
   ·rw [kL h1,Nat.add_sub_cancel_left];simp
   ·rcases Nat.lt_or_ge i 9 with hl|hg
    ·have:128^i≤128^8:=Nat.pow_le_pow_right (by omega) (by omega)
     have h8:(128:Nat)^8=72057594037927936:=by decide
     have:x.toNat*128^i≤127*72057594037927936:=Nat.mul_le_mul (by omega) (by omega)
     omega
    ·obtain rfl:i=9:=by omega
     have:x.toNat≤1:=by omega
     rw [hp9];omega
  ·rename_i h1
   have hi8:i≠9:=by omega
   obtain ⟨k1,k2,m,k3,k4,k5,k6⟩:=lW r (i+1) _ N K (by omega) h
   have hm:0<m:=by omega
   have hp:(128:Nat)^(i+1)=128^i*128:=Nat.pow_succ ..
   have hv:(x.toNat%128+128*m)*128^i=x.toNat%128*128^i+m*128^(i+1):=by
    rw [Nat.add_mul,hp,←Nat.mul_assoc,Nat.mul_right_comm m,Nat.mul_comm 128 m]
   refine ⟨by omega,by simp;omega,x.toNat%128+128*m,?_,?_,by omega,?_⟩
   ·rw [k3,hv];omega
   ·have hge:¬(x.toNat%128+128*m<128):=by omega
    have e1:(x.toNat%128+128*m)%128=x.toNat%128:=by omega
    have e2:(x.toNat%128+128*m)/128=m:=by omega
    have e3:UInt8.ofNat (128+x.toNat%128)=x:=by
     apply UInt8.toNat_inj.mp;simp;omega
    rw [kM hge,e1,e2,e3,k4]
    have:K-i=(K-(i+1))+1:=by omega
    rw [this,List.take_succ_cons]
   ·rw [hv];have hpos:0<128^i:=Nat.pow_pos (by omega);have hlt:m*128^(i+1)<18446744073709551616:=k6;rcases Nat.lt_or_ge (i+1) 9 with hl|hg
    ·
     have hq:18446744073709551616=128^(i+1)*(2*128^(8-i)):=by
      rw [←Nat.mul_assoc,Nat.mul_comm (128^(i+1)) 2,Nat.mul_assoc,←Nat.pow_add,show i+1+(8-i)=9 by omega,hp9]
     have hx2:x.toNat%128*128^i<128^(i+1):=by
      rw [hp,Nat.mul_comm];exact Nat.mul_lt_mul_of_pos_left (by omega) hpos
     have:m<2*128^(8-i):=by
      rw [hq,Nat.mul_comm m] at hlt;exact Nat.lt_of_mul_lt_mul_left hlt
     have:(m+1)*128^(i+1)≤18446744073709551616:=by
      rw [hq,Nat.mul_comm];exact Nat.mul_le_mul_left _ this
     rw [Nat.add_mul] at this;omega
    ·obtain rfl:i=8:=by omega
     have h8:(128:Nat)^8=72057594037927936:=by decide
     have e9:(128:Nat)^(8+1)=9223372036854775808:=hp9;rw [e9] at hlt⊢
     have:m≤1:=by omega
     rw [h8]
     have hy:x.toNat%128≤127:=by omega
     exact zJW _ _ hy hlt
end Go.Proofs.YtfcnkpofcekmgaaGreat
namespace Go.Proofs.YtfcnkpofcekmgaaGreat
open Go.RowKit
theorem zE3 {y z:UInt8} (h:y≠z):((y.toNat:Int)==(z.toNat:Int))=false:=by
 have:y.toNat≠z.toNat:=fun e=>h (UInt8.toNat_inj.mp e)
 simp;omega
section laws
variable {w:World} {ops:Array Oper} {rest:List Oper} {o:Oper} {a:Act} {Q:Exit→Act→World→Prop}
theorem zAJ (hg:o.guard=none) (l c:Operand) (hop:o.op=Op.makeSlice 41 l c)
 (C:Int) (n:Nat) (hl:a.eval l= .int .i64 0) (hc:a.eval c= .int .i64 C) (hL:C=(n:Int)) (hn:n≤281474976710656) (base:Nat) (hb:base≤w.heap.size)
 (hK:∀w',OwB w' base (.slice (some ⟨w.heap.size,0,none⟩) 0 n) []→Below w.heap.size w w'→w'.heap.size=w.heap.size+1→wpList Tryz.prog ops Q rest (a.put o.dst (.slice (some ⟨w.heap.size,0,none⟩) 0 n)) w'):
 wpList Tryz.prog ops Q (o::rest) a w:=by
 obtain ⟨i,hi,hz0,hz1,hz2⟩:=info_parts b8;refine wpList_plain hg fun K hK'=> ?_;have hr:=run_make (P:=Tryz.prog) w 41 5 i _ Tryz.underlying41 hi hz0 .i64 .i64 0 n (by omega) (by omega) (by rw [hz2];omega) (by omega);subst hL;unfold Oper.wp;simp [execOp,hop,hl,hc,Result.andThen];simp at hr;rw [hr];simp [];refine hK' _ _ (hK _ ?_ ((Below.refl _ _).alloc (Nat.le_refl _) _) (by simp));have e:=toList_madeCells_one (.int .u8 0) n;have h1:=OBlk.new w 5 (madeCells #[.int .u8 0] n);rw [e,←jZ] at h1
 have:=h1.owB (base:=base) hb (by simp only [maxLen,List.length_replicate];omega) (n:=0) (by omega)
 rw [List.length_replicate] at this
 simpa [Value.cells,hz1] using this
end laws
theorem zJZ (n:Nat):bits .or .u8 ((n:Int)%256) 128=((UInt8.ofNat (128+n%128)).toNat:Int):=by
 have h1:(BitVec.ofInt 8 ((n:Int)%256)).toNat=n%256:=by rw [BitVec.toNat_ofInt];omega
 have h2:(BitVec.ofInt 8 (128:Int)).toNat=128:=rfl
 show IntKind.u8.wrap ((BitVec.ofInt 8 ((n:Int)%256)|||BitVec.ofInt 8 (128:Int)).toNat:Int)=_
 rw [BitVec.toNat_or,h1,h2,IntKind.wrap_u8]
 have key:∀k:Fin 256,k.val|||128=128+k.val%128:=by decide
 have:=key ⟨n%256,by omega⟩
 simp only at this;rw [this]
 simp
theorem fS (n:Nat) (hn:n<18446744073709551616) (w:World):
 Calls Tryz.prog 171 #[.int .u64 n] w fun e w'=>∃v,e= .returned v∧OwB w' w.heap.size v (zR n)∧Below w.heap.size w w':=by
 have HL:=Lib.hid (yF hn);go_enter Tryz.func171,Tryz.ntmps171;go_wp2_with (first|(at_make;refine zAJ rfl _ _ rfl _ 10 rfl rfl rfl (by omega) w.heap.size (Nat.le_refl _) ?_;intro w1 ho1 hw1 hs1)|fail)
 go_loopw [0,3] (fun m v wr=>∃(k:Nat) (pre:List UInt8),m= .int .u64 (k:Int)∧k<18446744073709551616∧Hid (zR n=pre++zR k)∧OwB wr w.heap.size v pre∧Below w.heap.size w wr)
  (fun m _ _=>(intOf m).toNat)
 case atStart=>exact ⟨n,[],rfl,hn,Lib.hid rfl,ho1,hw1⟩
 case round=>
  clear ho1 hw1 hs1;obtain ⟨k,pre,rfl,hk,HE,ho,hb⟩:=hrel;have hbs:=hb.size
  by_cases h:k<128
  ·have hlen:pre.length+1≤10:=by
    have h1:=HL.out;rw [HE.out,kL h] at h1
    simpa using h1
   go_wp2_with (first
    |(at_builtin;refine jO rfl (.tmp 15) (.tmp 18) rfl w.heap.size _ pre rfl ho (UInt8.ofNat k) _ (by rw [f8];first|rfl|(congr 1;omega)) 5 rfl (by omega) hbs ?_;intro v2 w2 ho2 hg2 _)
    |fail)
   go_ret;refine ⟨v2,rfl,?_,hb.grown hg2 hbs (fun g hg=>(ho.lt g hg).1)⟩;rw [HE.out,kL h];exact ho2
  ·have hlen:pre.length+1≤10:=by
    have h1:=HL.out;rw [HE.out,kM h] at h1;simp at h1;omega
   have hor:=zJZ k;have hu:=kM h;have HU:=Lib.hid hu;clear hu
   go_wp2_with (first
    |(at_builtin;refine jO rfl (.tmp 9) (.tmp 13) rfl w.heap.size _ pre rfl ho (UInt8.ofNat (128+k%128)) _ rfl 5 rfl (by omega) hbs ?_;intro v2 w2 ho2 hg2 _)
    |fail)
   go_roundw
   case rel=>exact ⟨k/128,pre++ [UInt8.ofNat (128+k%128)],by go_num,by omega,Lib.hid (by rw [HE.out,HU.out];simp),ho2,hb.grown hg2 hbs (fun g hg=>(ho.lt g hg).1)⟩
   case measure=>simp [intOf];omega
theorem kX (n:Nat) (hn:n<18446744073709551616) (w:World):
 Calls Tryz.prog 163 #[.int .u64 n] w fun e w'=>∃v,e= .returned v∧OwB w' w.heap.size v (zR n)∧Below w.heap.size w w':=by
 have HL:=Lib.hid (yF hn);go_enter Tryz.func163,Tryz.ntmps163;go_wp2_with fail
 go_loopw [0,3] (fun m v wr=>∃(k:Nat) (pre:List UInt8),m= .int .u64 (k:Int)∧k<18446744073709551616∧Hid (zR n=pre++zR k)∧OwB wr w.heap.size v pre∧Below w.heap.size w wr)
  (fun m _ _=>(intOf m).toNat)
 case atStart=>exact ⟨n,[],rfl,hn,Lib.hid rfl,OwB.nil _ _,Below.refl _ _⟩
 case round=>
  obtain ⟨k,pre,rfl,hk,HE,ho,hb⟩:=hrel;have hbs:=hb.size
  by_cases h:k<128
  ·have hlen:pre.length+1≤10:=by
    have h1:=HL.out;rw [HE.out,kL h] at h1
    simpa using h1
   go_wp2_with (first
    |(at_builtin;refine jO rfl (.tmp 15) (.tmp 18) rfl w.heap.size _ pre rfl ho (UInt8.ofNat k) _ (by rw [f8];first|rfl|(congr 1;omega)) 5 rfl (by omega) hbs ?_;intro v2 w2 ho2 hg2 _)
    |fail)
   go_ret;refine ⟨v2,rfl,?_,hb.grown hg2 hbs (fun g hg=>(ho.lt g hg).1)⟩;rw [HE.out,kL h];exact ho2
  ·have hlen:pre.length+1≤10:=by
    have h1:=HL.out;rw [HE.out,kM h] at h1;simp at h1;omega
   have hu:=kM h;have HU:=Lib.hid hu;clear hu
   go_wp2_with (first
    |(at_builtin;refine jO rfl (.tmp 6) (.tmp 11) rfl w.heap.size _ pre rfl ho (UInt8.ofNat (128+k%128)) _ (by rw [f8];first|rfl|(congr 1;omega)) 5 rfl (by omega) hbs ?_;intro v2 w2 ho2 hg2 _)
    |fail)
   go_roundw
   case rel=>exact ⟨k/128,pre++ [UInt8.ofNat (128+k%128)],by go_num,by omega,Lib.hid (by rw [HE.out,HU.out];simp),ho2,hb.grown hg2 hbs (fun g hg=>(ho.lt g hg).1)⟩
   case measure=>simp [intOf];omega
theorem sL (va vb:Value) (a b:List UInt8) (w:World) (ha:RdB w va a) (hb:RdB w vb b):
 Calls Tryz.prog 179 #[va,vb] w fun e w'=>e= .returned (.int .i64 (yU a b:Nat))∧Below w.heap.size w w':=by
 obtain ⟨A,ca,rfl,hma⟩:=ha.form;obtain ⟨B,cb,rfl,hmb⟩:=hb.form
 by_cases hle:(a.length:Int)≤(b.length:Int)
 ·go_enter Tryz.func179,Tryz.ntmps179;go_wp2_with fail
  go_loopw [13] (fun i wr=>∃j:Nat,i= .int .i64 (j:Int)∧j≤a.length∧Hid (∀i,i<j→a[i]? =b[i]?)∧Below w.heap.size w wr)
   (fun i _=>a.length-(intOf i).toNat)
  case atStart=>exact ⟨0,rfl,Nat.zero_le _,Lib.hid (fun i h=>by omega),Below.refl _ _⟩
  case round=>
   obtain ⟨j,rfl,hj,HS,hbl⟩:=hrel
   by_cases hlt:j<a.length
   ·have ja:j<a.length:=by omega
    have jb:j<b.length:=by omega
    obtain ⟨ad,rfl,hca⟩:=(ha.below hbl (Nat.le_refl _)).at_ ja;obtain ⟨bd,rfl,hcb⟩:=(hb.below hbl (Nat.le_refl _)).at_ jb
    have i1:(j:Int)<(a.length:Int):=by omega
    have i2:(j:Int)<(b.length:Int):=by omega
    by_cases hxy:a[j]=b[j]
    ·have HS2:Hid (∀i,i<j+1→a[i]? =b[i]?):=Lib.hid fun i hi=>by
      by_cases e:i=j
      ·subst e;rw [List.getElem?_eq_getElem ja,List.getElem?_eq_getElem jb,hxy]
      ·exact HS.out i (by omega)
     rw [hxy] at hca;clear hxy;generalize b[j]=x at hca hcb;go_upto_region 5 with (fail)
     go_region
     go_wp2_with fail;go_roundw
     case rel=>exact ⟨j+1,by go_num,by omega,HS2,hbl.drew⟩
     case measure=>simp [intOf];omega
    ·have hcom:=Lib.hid (rE a b j (by omega) (by omega) HS.out (fun _ _=>hxy));have e1:=zE3 hxy;clear hxy;generalize a[j]=x at hca e1;generalize b[j]=y at hcb e1;go_upto_region 5 with (fail)
     go_region
     go_wp2_with fail;go_ret;rw [hcom.out];exact ⟨rfl,hbl.drew⟩
   ·obtain rfl:j=a.length:=by omega
    have hcom:=Lib.hid (rE a b a.length (by omega) (by omega) HS.out (fun h h'=>by omega));go_wp2_with fail;go_ret;rw [hcom.out];exact ⟨rfl,hbl⟩
 ·go_enter Tryz.func179,Tryz.ntmps179;go_wp2_with fail
  go_loopw [13] (fun i wr=>∃j:Nat,i= .int .i64 (j:Int)∧j≤b.length∧Hid (∀i,i<j→a[i]? =b[i]?)∧Below w.heap.size w wr)
   (fun i _=>b.length-(intOf i).toNat)
  case atStart=>exact ⟨0,rfl,Nat.zero_le _,Lib.hid (fun i h=>by omega),Below.refl _ _⟩
  case round=>
   obtain ⟨j,rfl,hj,HS,hbl⟩:=hrel
   by_cases hlt:j<b.length
   ·have ja:j<a.length:=by omega
    have jb:j<b.length:=by omega
    obtain ⟨ad,rfl,hca⟩:=(ha.below hbl (Nat.le_refl _)).at_ ja;obtain ⟨bd,rfl,hcb⟩:=(hb.below hbl (Nat.le_refl _)).at_ jb
    have i1:(j:Int)<(a.length:Int):=by omega
    have i2:(j:Int)<(b.length:Int):=by omega
    by_cases hxy:a[j]=b[j]
    ·have HS2:Hid (∀i,i<j+1→a[i]? =b[i]?):=Lib.hid fun i hi=>by
      by_cases e:i=j
      ·subst e;rw [List.getElem?_eq_getElem ja,List.getElem?_eq_getElem jb,hxy]
      ·exact HS.out i (by omega)
     rw [hxy] at hca;clear hxy;generalize b[j]=x at hca hcb;go_upto_region 5 with (fail)
     go_region
     go_wp2_with fail;go_roundw
     case rel=>exact ⟨j+1,by go_num,by omega,HS2,hbl.drew⟩
     case measure=>simp [intOf];omega
    ·have hcom:=Lib.hid (rE a b j (by omega) (by omega) HS.out (fun _ _=>hxy));have e1:=zE3 hxy;clear hxy;generalize a[j]=x at hca e1;generalize b[j]=y at hcb e1;go_upto_region 5 with (fail)
     go_region
     go_wp2_with fail;go_ret;rw [hcom.out];exact ⟨rfl,hbl.drew⟩
   ·obtain rfl:j=b.length:=by omega
    have hcom:=Lib.hid (rE a b b.length (by omega) (by omega) HS.out (fun h h'=>by omega));go_wp2_with fail;go_ret;rw [hcom.out];exact ⟨rfl,hbl⟩
def vL:List (List UInt8)→Nat
 | []=>0
 |t::r=>r.foldl (fun n x=>min n (yU t x)) t.length
theorem zIX:Tryz.prog.underlying 35=some (.slice (Tryz.prog.elem 35)):=by kernel_rfl
theorem zFM (w:World):(sizeOf (Tryz.prog.elem 35)).run Tryz.prog w= .ok 1 w:=by
 have he:Tryz.prog.elem 35=41:=by kernel_rfl
 rw [he];obtain ⟨i,hi,hz0,hz1,hz2⟩:=info_parts zEU;simp [sizeOf,typeInfo,hi,hz1]
theorem RdL.run_l {w:World} {A:Option Addr} {n c:Nat} {ls:List (List UInt8)} (h:RdL w (.slice A n c) ls) (lo:Nat) (h1:lo≤ls.length):
 ∃A' c',(∀w',(Instr.slice 35 (.slice A n c) (some (.int .i64 (lo:Int))) none none).run Tryz.prog w'= .ok (.slice A' (ls.length-lo) c') w')∧RdL w (.slice A' (ls.length-lo) c') (ls.drop lo):=by
 obtain ⟨vs,⟨h0,A0,c0,hv,h2,h3,h4⟩,h5,h6⟩:=h;injection hv with hA hn hc;subst hA;subst hc;subst hn
 have hle:lo≤vs.length:=by omega
 refine ⟨_,_,fun w'=> ?_,vs.drop lo,⟨by simp,(if c=lo then A else A.map (·.add lo)),c-lo,by rw [List.length_drop,←h5],by simp;omega,by omega,fun j u hj=> ?_⟩,by simp;omega,fun i hi=> ?_⟩
 ·have:=run_slice_l (P:=Tryz.prog) w' 35 A vs.length c zIX .i64 lo (by omega) (by omega)
  rw [this,zFM,←h5];simp [Result.andThen,sliced]
 ·rw [List.getElem?_drop] at hj;obtain ⟨ad,rfl,hcell⟩:=h4 _ _ hj;have hlt:=(List.getElem?_eq_some_iff.mp hj).1;rw [if_neg (by omega)];exact ⟨ad.add lo,rfl,by rw [jW];exact hcell⟩
 ·have hi':lo+i<ls.length:=by simp at hi;omega
  obtain ⟨u,hu,hr⟩:=h6 (lo+i) hi';refine ⟨u,by rw [List.getElem?_drop];exact hu,?_⟩;rw [List.getElem_drop];exact hr
theorem sQ (v:Value) (ls:List (List UInt8)) (w:World) (hv:RdL w v ls):Calls Tryz.prog 169 #[v] w fun e w'=>e= .returned (.int .i64 (vL ls:Nat))∧Below w.heap.size w w':=by
 obtain ⟨A,c,rfl,hm⟩:=hv.form
 cases ls with
 |nil=>
  go_enter Tryz.func169,Tryz.ntmps169;go_wp2_with fail;go_ret;exact ⟨rfl,Below.refl _ _⟩
 |cons t r=>
  obtain ⟨ad,A0,c0,rfl,hc0,hr0⟩:=hv.at_ (k:=0) (by simp);have htl:t.length≤9223372036854775807:=hr0.le
  have hc0:w.cell? ad=some (.slice A0 t.length c0):=by simpa [Addr.add] using hc0
  have hr0:RdB w (.slice A0 t.length c0) t:=hr0;obtain ⟨A1,c1,q1,hr1⟩:=hv.run_l 1 (by simp);have q1:∀w',(Instr.slice 35 (.slice (some ad) (t::r).length c) (some (.int .i64 1)) none none).run Tryz.prog w'= .ok (.slice A1 r.length c1) w':=fun w'=>q1 w';have hr1:RdL w (.slice A1 r.length c1) r:=hr1
  have hrl:r.length+1≤9223372036854775807:=by simpa using hm
  have hL:(t::r).length=r.length+1:=rfl;rw [hL] at q1 hv hm⊢
  have e0:(((r.length:Int)+1)==0)=false:=by simp;omega
  have i0:(0:Int)<(r.length:Int)+1:=by omega
  clear hL;go_enter Tryz.func169,Tryz.ntmps169;go_wp2_with fail;clear q1
  go_loopw [3,16] (fun n i wr=>∃j N:Nat,i= .int .i64 (j:Int)∧n= .int .i64 (N:Int)∧j≤r.length∧Hid (N=(r.take j).foldl (fun n x=>min n (yU t x)) t.length)∧Below w.heap.size w wr)
   (fun _ i _=>r.length-(intOf i).toNat)
  case atStart=>exact ⟨0,t.length,rfl,rfl,Nat.zero_le _,Lib.hid rfl,Below.refl _ _⟩
  case round=>
   obtain ⟨j,N,rfl,rfl,hj,HN,hb⟩:=hrel
   have hc0':wr.cell? ad=some (.slice A0 t.length c0):=by
    obtain ⟨ad',A0',c0',e,h,_⟩:=(hv.below hb (Nat.le_refl _)).at_ (k:=0) (by simp);have hlt:ad.block<w.heap.size:=block_lt_of_cell hc0;rw [hb.cell hlt];exact hc0
   by_cases hlt:j<r.length
   ·obtain ⟨ad1,A2,c2,rfl,hcx,hrx⟩:=hr1.at_ hlt
    have hcx':wr.cell? (ad1.add j)=some (.slice A2 r[j].length c2):=by
     have hlt':(ad1.add j).block<w.heap.size:=block_lt_of_cell hcx;rw [hb.cell hlt'];exact hcx
    have HF:Hid ((r.take (j+1)).foldl (fun n x=>min n (yU t x)) t.length=min N (yU t r[j])):=Lib.hid (by
     rw [←List.take_append_getElem hlt,List.foldl_append,←HN.out];rfl)
    have hxl:=hrx.le;clear hcx;generalize r[j]=x at*
    have i1:(j:Int)<(r.length:Int):=by omega
    rcases (by omega:(N:Int)≤(yU t x:Int)∨(yU t x:Int)<(N:Int)) with hle|hle
    ·go_wp2_with fail;refine (sL _ _ t x _ (hr0.below hb (Nat.le_refl _)) (hrx.below hb (Nat.le_refl _))).mono ?_;rintro e w2 ⟨rfl,hw2⟩;have hb2:=hb.trans (hw2.mono hb.size);go_wp2_with fail;go_roundw
     case rel=>exact ⟨j+1,N,by go_num,rfl,by omega,Lib.hid (by rw [HF.out];omega),hb2⟩
     case measure=>simp [intOf];omega
    ·go_wp2_with fail;refine (sL _ _ t x _ (hr0.below hb (Nat.le_refl _)) (hrx.below hb (Nat.le_refl _))).mono ?_;rintro e w2 ⟨rfl,hw2⟩;have hb2:=hb.trans (hw2.mono hb.size);go_wp2_with fail;go_roundw
     case rel=>exact ⟨j+1,yU t x,by go_num,rfl,by omega,Lib.hid (by rw [HF.out];omega),hb2⟩
     case measure=>simp [intOf];omega
   ·obtain rfl:j=r.length:=by omega
    have HC:Hid (vL (t::r)=N):=Lib.hid (by rw [HN.out,List.take_length];rfl);go_wp2_with fail;go_ret;rw [HC.out];exact ⟨rfl,hb⟩
end Go.Proofs.YtfcnkpofcekmgaaGreat
