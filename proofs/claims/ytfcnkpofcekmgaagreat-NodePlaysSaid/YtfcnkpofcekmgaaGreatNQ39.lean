/- espalierlaw08.NodePlays: the statement 'NodePlaysSaid' is proved: whatever the input, the law returns true and the input reads as it did. -/
import Derived.Test.YtfcnkpofcekmgaaGreatNQ33
import Derived.Test.YtfcnkpofcekmgaaGreatNQ38
import Derived.Test.YtfcnkpofcekmgaaGreatRows
import Derived.JoinedCond
set_option maxRecDepth 100000
set_option maxHeartbeats 64000000
namespace Go.Proofs.YtfcnkpofcekmgaaGreat
open Go.RowKit
theorem Sep.book6p {w0 w:World} {L:List Ent} (h:Sep w0 w L):Sep w0 (w.alloc (.cells #[.slice none 0 0,.slice none 0 0] 40)) (yJ 40 w.heap.size [.slice none 0 0] (.slice none 0 0) []::xR (.slice none 0 0) []::L):=by
 have h1:=h.alloc 40 [.slice none 0 0,.slice none 0 0]
 have h2:Sep w0 _ (yJ 40 w.heap.size [.slice none 0 0] (.slice none 0 0) []::L):=h1.weak (fun hp=>⟨hp,Own.nil _ _ _ _,fun j u hj=>by simp at hj,fun i j u u' _ hi=>by simp at hi⟩) (fun g hg=>by
  rcases hg with rfl|hg|⟨j,u,hj,_⟩
  ·rfl
  ·cases hg
  ·simp at hj)
 exact (h2.cons (E:=xR (.slice none 0 0) []) ⟨Own.nil _ _ _ _,fun j u hj=>by simp at hj,fun i j u u' _ hi=>by simp at hi⟩ (fun g hg=>by
  rcases hg with hg|⟨j,u,hj,_⟩
  ·cases hg
  ·simp at hj) (fun _ _ g hg=>by
  rcases hg with hg|⟨j,u,hj,_⟩
  ·cases hg
  ·simp at hj)).sw1
theorem iA {m:List CV} {l:List PC} {P:Nat} (hm:pcs m=l) (h:∀c∈l,OkC P c) (hP:P≤65536):∀p∈vI m,p.2.length≤1000000000:=fun p hp=>by
 obtain ⟨x,hx,hp⟩:=List.mem_flatMap.1 hp;have hk:=qM (h x.c (by rw [←hm];exact List.mem_map_of_mem hx)) hP;simp only [List.mem_cons,List.not_mem_nil,or_false] at hp;rcases hp with rfl|rfl<;>simp only<;>omega
theorem zEL {b:List UInt8} {kind:Int} {l:List PC} (h:y8 b kind l):Wk kind b.length l:=by
 obtain ⟨-,-,h3,-⟩:=h;obtain ⟨h1,h2⟩:=vS.1 h3;exact ⟨(gS h1).2,fun c hc=>qE h1 c hc,h2⟩
theorem zKJ {b:List UInt8} {kind:Int} {l:List PC} (h:y8 b kind l):NdI1 kind b.length (zDA kind l):=zEL h
theorem zKQ {b:List UInt8} {kind:Int} {l:List PC} (h:jV b kind l):NdI2 kind b.length (zDK kind l):=rU h
theorem zEZ {kind:Int} {P:Nat} {s:KP} (hI:NdI1 kind P s) (hk:zO kind=true) (hp:zT (P:Int)=true):y8 (yV kind s.l P) kind s.l∧(yV kind s.l P).length=P∧egB (yV kind s.l P)=1:=by
 have hl:=kF (kind:=kind) (Wk.size hI);refine ⟨⟨by rw [hl];exact hp,hk,by rw [hl];exact Wk.enc hI,by rw [hl]⟩,hl,?_⟩;simp [egB,yV,kO,kC]
theorem zFE {kind:Int} {P:Nat} {s:KP} (hI:NdI2 kind P s) (hk:zO kind=true) (hp:zT (P:Int)=true):jV (x9 kind s.l P) kind s.l∧(x9 kind s.l P).length=P∧egB (x9 kind s.l P)=2:=by
 have hl:=q9 (kind:=kind) hI.size;have h:jV (x9 kind s.l P) kind s.l:=⟨by rw [hl];exact hp,hk,by rw [hl];exact hI.enc,by rw [hl]⟩;refine ⟨h,hl,?_⟩;unfold egB;rw [(fE h).2.2];rfl
structure BkOk (r:Nat) (xs:List (Value×List UInt8)) (ls:List (Value×Nat)):Prop where
 xl:xs.length≤r*65540
 xs:∀q∈xs,q.2.length≤1000000000
 ll:ls.length≤r
 ls:∀q∈ls,q.2≤1000000000
theorem BkOk.nil (r:Nat):BkOk r [] []:=⟨by simp,by simp,by simp,by simp⟩
theorem BkOk.play {r:Nat} {xs xs':List (Value×List UInt8)} {ls:List (Value×Nat)} {u:Value} {m:List CV} {l:List PC} {P:Nat} (h:BkOk r xs ls) (h1:xs'.length≤xs.length+2) (h2:(∀p∈xs,p.2.length≤1000000000)→∀p∈xs',p.2.length≤1000000000)
 (hm:pcs m=l) (hok:∀c∈l,OkC P c) (hP:P≤65536) (hln:l.length≤32768):BkOk (r+1) (xs'++vI m) (ls++ [(u,m.length)]):=by
 have e:m.length=l.length:=by rw [←hm,zA]
 refine ⟨?_,?_,?_,?_⟩
 ·rw [List.length_append,cD,e];have:=h.xl;omega
 ·intro q hq;rcases List.mem_append.1 hq with hq|hq
  ·exact h2 h.xs q hq
  ·exact iA hm hok hP q hq
 ·rw [List.length_append,List.length_singleton];have:=h.ll;omega
 ·intro q hq;rcases List.mem_append.1 hq with hq|hq
  ·exact h.ls q hq
  ·obtain rfl:=List.mem_singleton.1 hq
   show m.length≤_
   omega
theorem oS (w:World):Calls Tryz.prog 10 #[.nilIface] w fun e w'=>e= .returned (.slice none 0 0)∧w=w':=by
 go_enter Tryz.func10,Tryz.ntmps10;go_wp2_with fail;go_ret;exact ⟨rfl,rfl⟩
theorem cF (eng kind page z:Int) (hz:z≠0) (v:Value) (w:World)
 (hN:∀W,Calls Tryz.prog 8 #[.int .i64 eng,.int .i64 kind,.int .i64 page] W fun e w'=>e= .returned (.tuple #[.nilIface,.int .i64 z])∧Below W.heap.size W w')
 (hR:∀(w0 W:World) (L:List Ent),Sep w0 W L→Calls Tryz.prog 9 #[.int .i64 eng,.int .i64 kind,.int .i64 page] W fun e w'=>e= .returned (.tuple #[.pointer none,.int .i64 z])∧Sep w0 w' L):
 Calls Tryz.prog 3 #[.int .i64 eng,.int .i64 kind,.int .i64 page,v] w fun e w'=>e= .returned (.bool true)∧Below w.heap.size w w':=by
 have z0:((z:Int) !=0)=true:=by simp [hz]
 have z1:((z:Int)==z)=true:=by simp
 have hC:=fun W=>oS W;clear hz;go_enter Tryz.func3,Tryz.ntmps3;go_upto_region 4 with (first|(go_at_call 7;(with_reducible refine (cE _).mono ?_);rintro e w1 ⟨rfl,hB⟩)|fail);have hS1:=(Sep.start w).below hB
 go_upto_region 5 with (first
  |(go_at_call 8;refine (hN _).mono ?_;rintro e w2 ⟨rfl,hw2⟩)
  |fail)
 have hr:=hR w w2 _ (hS1.below hw2);clear hS1
 go_upto_region 6 with (first
  |(go_at_call 9;refine hr.mono ?_;rintro e w3 ⟨rfl,hS3⟩)
  |fail)
 clear hr
 go_wp2_with (first
  |(go_at_call 10;refine (hC _).mono ?_;rintro e w4 ⟨rfl,rfl⟩)
  |fail)
 go_ret;exact ⟨rfl,hS3.belowOld (_v:=w) (by simp)⟩
theorem zD3 (kind:Int) (P:Nat) (hkb:zO kind=true) (hpb:zT (P:Int)=true) (v:Value) (l:List OpX) (w:World) (hl:RdOps w v l) (hsz:∀o∈l,o.x.c.key.length≤140737488351232∧o.x.c.val.length≤140737488351232∧o.key.length≤140737488351232):
 Calls Tryz.prog 3 #[.int .i64 1,.int .i64 kind,.int .i64 (P:Int),v] w fun e w'=>e= .returned (.bool true)∧Below w.heap.size w w':=by
 obtain ⟨A,c,rfl,hlc,hcm,-⟩:=hl.form;have hcm':c≤9223372036854775807:=hcm;have hrg:=zZ hpb;have hkd:kind=2∨kind=3:=of_decide_eq_true hkb
 have hP:P≤65536:=by omega
 have hP2:512≤P:=by omega
 have HL:=Lib.hid hl;have HSZ:=Lib.hid hsz;have HKB:=Lib.hid hkb;have HPB:=Lib.hid hpb;have HKD:=Lib.hid hkd;clear hcm hl hsz hkb hpb hkd hrg;go_enter Tryz.func3,Tryz.ntmps3;go_upto_region 4 with (first|(go_at_call 7;(with_reducible refine (cE _).mono ?_);rintro e w1 ⟨rfl,hB⟩)|fail);have hS1:=(Sep.start w).below hB;have hN1:=oO hS1 HKB.out HPB.out;clear hS1 hB
 go_upto_region 5 with (first
  |(go_at_call 8;(with_reducible refine hN1.mono ?_);rintro e w2 ⟨p0,rfl,hP1⟩)
  |fail)
 obtain ⟨E1,hS2,B1⟩:=NdP1.sep hP1;have hR:=zHX hS2 HKB.out HPB.out;have HB1:=Lib.hid B1;clear hN1 hP1 hS2 B1
 go_upto_region 6 with (first
  |(go_at_call 9;(with_reducible refine hR.mono ?_);rintro e w3 ⟨x0,rfl,hP2⟩)
  |fail)
 obtain ⟨R1,hS3,B2⟩:=RnP1.sep hP2;have HB2:=Lib.hid B2;have hS4:=Sep.pick (L:= [_,_,_,_,_]) [3,2,0,1,4] (by decide) rfl hS3.book6p;clear hR hP2 B2 hS3;go_upto_region 12 with (fail);generalize hwb:w3.alloc (.cells #[.slice none 0 0,.slice none 0 0] 40)=w4 at*;generalize w3.heap.size=b0 at*;clear hwb;obtain ⟨n,hnn⟩:∃n,l.length=n:=⟨_,rfl⟩;have HN:=Lib.hid hnn;rw [hnn] at hlc;rw [hnn];clear hnn;have hI0:NdI1 kind P ⟨[],[],0⟩:=⟨List.Pairwise.nil,by simp,by show 8≤P;omega⟩;have HI0:=Lib.hid hI0;clear hI0
 go_loopw [10,11,12,13,14,15] (fun nv ev xv fv bkv iv wr=>∃(i p x bb:Nat) (s:KP) (E R:Ent) (bv lv:Value) (xs:List (Value×List UInt8)) (ls:List (Value×Nat)),i≤n∧nv=sI p∧ev= .int .i64 0∧xv= .pointer (some ⟨x,0,none⟩)∧fv= .int .i64 0∧bkv= .pointer (some ⟨bb,0,none⟩)∧iv= .int .i64 (i:Int)∧NdI1 kind P s∧Hid (BkOk (i%4) xs ls)∧
  Sep w wr [E,R,yJ 40 bb [lv] bv xs,xR lv ls,yK w]∧Hid (∀(W:World) (M:List Ent),Sep w W (E::M)→NdP1 w W M p P kind s)∧Hid (∀(W:World) (M:List Ent),Sep w W (R::M)→RnP1 w W M x P kind s)) (fun _ _ _ _ _ iv _=>n-(intOf iv).toNat)
 case atStart=>exact ⟨0,p0,x0,b0,⟨[],[],0⟩,E1,R1,_,_,[],[],Nat.zero_le _,rfl,rfl,rfl,rfl,rfl,rfl,HI0.out,Lib.hid (BkOk.nil _),hS4,HB1,HB2⟩
 case round=>
  clear hS4 HB1 HB2;obtain ⟨i,p,x,bb,s,E,R,bv,lv,xs,ls,hi,rfl,rfl,rfl,rfl,rfl,rfl,hI,HBK,hS,HE,HR⟩:=hrel;have hi4:i%4<4:=Nat.mod_lt _ (by omega)
  have hxl:xs.length≤300000:=by have:=HBK.out.xl;omega
  have hll:ls.length≤10:=by have:=HBK.out.ll;omega
  clear hi4
  by_cases hlt:i<n
  ·have ik:(i:Int)<(n:Int):=by omega
   have ik0:(0:Int)≤(i:Int):=by omega
   have hil:i<l.length:=by rw [HN.out];exact hlt
   have HLo:=HL.out;have hok:=HLo.ok _ (List.getElem_mem hil);have hsz:=HSZ.out _ (List.getElem_mem hil);obtain ⟨ad,rfl,c0,c1,c2,c3,c4,c5,c6,c7⟩:=HLo.at_ hil;replace c0:=hS.cellO (v:=w) (by simp) c0;replace c1:=hS.cellO (v:=w) (by simp) c1;replace c2:=hS.cellO (v:=w) (by simp) c2;replace c3:=hS.cellO (v:=w) (by simp) c3;replace c4:=hS.cellO (v:=w) (by simp) c4;replace c5:=hS.cellO (v:=w) (by simp) c5;replace c6:=hS.cellO (v:=w) (by simp) c6;replace c7:=hS.cellO (v:=w) (by simp) c7;generalize l[i]=q at*;obtain ⟨K,at_,ox,kv,okey⟩:=q;obtain ⟨hxo,hko,hr0,hr1⟩:=hok;simp only at c0 c1 c2 c3 c4 c5 c6 c7 hxo hko hr0 hr1 hsz;obtain ⟨D,cd,rfl,-⟩:=hko.form;obtain ⟨xA,xa,xB,xb,key,ck,val,pg,ct,rfl,-,-⟩:=CV.form hxo;simp only at c0 c1 c2 c3 c4 c5 c6 c7 hsz;have HXO:=Lib.hid hxo;have HKO:=Lib.hid hko;have HSQ:=Lib.hid hsz;obtain ⟨a6,m6,e1,⟨e2,e2'⟩,e3,e4,hm⟩:=zGK hr0;clear HLo hxo hko hsz
   by_cases h5:m6=5
   ·subst h5;have hiB:=tQ;obtain ⟨his,hbl,heg⟩:=zEZ hI HKB.out HPB.out;have hby:=zE6 (HE.out _ _ hS) hI HKB.out HPB.out;have hrb:=fun (W:World) (M:List Ent) (h:Sep w W (R::M))=>zIB (HR.out W M h) hI HKB.out HPB.out
    have HOPN:=Lib.hid (fun (W:World) (M:List Ent) (vv:Value) (hh:Sep w W M) (hv:RdB W vv (yV kind s.l P))=>by
     have h9:=zIE (by rw [hbl];omega) heg his hh hv;rw [hbl] at h9
     exact h9)
    have HOPR:=Lib.hid (fun (W:World) (M:List Ent) (vv:Value) (hh:Sep w W M) (hv:RdB W vv (yV kind s.l P))=>by
     have h9:=zGS (by rw [hbl];omega) heg his hh hv;rw [hbl] at h9
     exact h9)
    have hIN:NdI1 kind P (zDA kind s.l):=by have h9:=zKJ his;rwa [hbl] at h9
    have HBL:=Lib.hid hbl;generalize zDA kind s.l=s' at*;generalize yV kind s.l P=b at*;have HRB:=Lib.hid hrb;clear his hbl heg hrb
    go_upto_region 17 with (first
     |(go_at_call 198;refine hby.mono ?_;rintro e w5 ⟨v5,rfl,hN5⟩;obtain ⟨E5,hS5,-⟩:=NdP1.sep hN5;obtain ⟨g5,c5,rfl⟩:=(show OwB w5 0 v5 b from hS5.tail.head).some' (n:=P) HBL.out (by omega))
     |fail)
    have hrb:=HRB.out _ _ (Sep.pick (L:= [_,_,_]) [2,0,1] (by decide) rfl hS5);clear hby hN5 hS5 HRB
    go_upto_region 18 with (first
     |(go_at_call 11;refine hrb.mono ?_;rintro e w6 ⟨v6,rfl,hN6⟩;obtain ⟨R6,hS6,-⟩:=RnP1.sep hN6;obtain ⟨g6,c6,rfl⟩:=(show OwB w6 0 v6 b from hS6.tail.head).some' (n:=P) HBL.out (by omega))
     |fail)
    have q5:=yM (OwB.rd (show OwB w6 0 (.slice (some ⟨g5,0,none⟩) P c5) b from hS6.of_mem (E:=zB (.slice (some ⟨g5,0,none⟩) P c5) b) (by simp)));have q6:=yM (OwB.rd (show OwB w6 0 (.slice (some ⟨g6,0,none⟩) P c6) b from hS6.of_mem (E:=zB (.slice (some ⟨g6,0,none⟩) P c6) b) (by simp)));have hO:=HOPN.out _ _ (.slice (some ⟨g5,0,none⟩) P c5) hS6 (OwB.rd (show OwB w6 0 (.slice (some ⟨g5,0,none⟩) P c5) b from hS6.of_mem (E:=zB (.slice (some ⟨g5,0,none⟩) P c5) b) (by simp)));clear hrb hN6 hS6 HOPN;go_upto_region 20 with (fail);clear q5 q6
    go_upto_region 21 with (first
     |(go_at_call 12;refine hO.mono ?_;rintro e w7 ⟨p7,rfl,hN7⟩)
     |fail)
    obtain ⟨E7,hS7,B7⟩:=NdP1.sep hN7;have HEp:=Lib.hid B7;have hO:=HOPR.out _ _ (.slice (some ⟨g6,0,none⟩) P c6) hS7 (OwB.rd (show OwB w7 0 (.slice (some ⟨g6,0,none⟩) P c6) b from hS7.of_mem (E:=zB (.slice (some ⟨g6,0,none⟩) P c6) b) (by simp)));clear hN7 B7 hS7 HOPR
    go_upto_region 22 with (first
     |(go_at_call 13;refine hO.mono ?_;rintro e w8 ⟨x8,rfl,hN8⟩)
     |fail)
    obtain ⟨R8,hS8,B8⟩:=RnP1.sep hN8;have HRp:=Lib.hid B8;have hS9:Sep w w8 (zB (.slice (some ⟨g5,0,none⟩) P c5) b:: [E7,R8,yJ 40 bb [lv] bv xs,xR lv ls,yK w]):=Sep.pick (L:= [_,_,_,_,_,_,_,_,_]) [5,1,0,6,7,8] (by decide) rfl hS8;clear hO hN8 B8 hS8;go_upto_region 25 with (fail)
    go_loopw [19] (fun jv wq=>∃(j:Nat) (y:List UInt8),j≤P∧jv= .int .i64 (j:Int)∧Hid (y.length=P)∧Sep w wq (zB (.slice (some ⟨g5,0,none⟩) P c5) y:: [E7,R8,yJ 40 bb [lv] bv xs,xR lv ls,yK w])) (fun jv _=>P-(intOf jv).toNat)
    case atStart=>exact ⟨0,_,Nat.zero_le _,rfl,HBL,hS9⟩
    case round=>
     clear hS9;obtain ⟨j,y,hj,rfl,HX,hS9⟩:=hrel
     by_cases hjl:j<P
     ·have jk:(j:Int)<(P:Int):=by omega
      have hix:j<y.length:=by rw [HX.out];exact hjl
      have hox:OwB _ 0 (.slice (some ⟨g5,0,none⟩) P c5) y:=hS9.head;have y0:=hox.cell hix;have f0:=hox.frozen hix;have HS2:=Lib.hid (hS9.setB j 99);have HX2:Hid ((y.set j 99).length=P):=Lib.hid (by rw [List.length_set];exact HX.out);clear hS9 hox;go_wp2_with fail;go_roundw
      case rel=>exact ⟨j+1,y.set j 99,by omega,by go_num,HX2,HS2.out⟩
      case measure=>simp [intOf];omega
     ·obtain rfl:j=P:=by omega
      have hSp:=hS9.tail;clear hS9 hjl hj;have hA:=wY hSp HEp HRp hIN hP (by omega) (by omega)
      go_upto_region 30 with (first
       |(go_at_call 15;refine hA.mono ?_;rintro e w10 ⟨rfl,E10,R10,bv10,lv10,u10,m10,hm10,hS10,HE10,HR10⟩)
       |fail)
      have HBN:=Lib.hid (HBK.out.play (u:=u10) (Nat.le_add_right _ 2) (fun h=>h) hm10 hIN.ok hP (hIN.len hP));clear hA hm10 hSp
      by_cases h3:i%4=3
      ·have t1:(i:Int)%4=3:=by omega
       have t2:(i:Int).tmod 4=3:=by rw [Int.tmod_eq_emod_of_nonneg ik0];exact t1
       have t3:((i%4:Nat):Int)=3:=by omega
       have hOw:=kS (Sep.pick (L:= [_,_,_,_]) [2,3,0,1] (by decide) rfl hS10) (by have:=HBN.out.xl;omega) HBN.out.xs (by have:=HBN.out.ll;omega) HBN.out.ls;clear hS10
       go_upto_region 36 with (first
        |(go_at_call 16;refine hOw.mono ?_;rintro e w11 ⟨rfl,xs11,-,hS11⟩)
        |fail)
       have HS12:=Lib.hid (Sep.pick (L:= [_,_,_,_]) [2,3,0,1] (by decide) rfl (Sep.pick (L:= [_,_,_,_]) [2,3] (by decide) rfl hS11).book6p);clear hOw hS11 t1 t2 t3;go_wp2_with fail;go_roundw
       case rel=>exact ⟨i+1,p7,x8,_,s',E10,R10,_,_,[],[],by omega,rfl,rfl,rfl,rfl,rfl,by go_num,hIN,Lib.hid (BkOk.nil _),HS12.out,HE10,HR10⟩
       case measure=>simp [intOf];omega
      ·obtain ⟨r,t1⟩:∃r:Int,(i:Int)%4=r:=⟨_,rfl⟩
       have t2:(i:Int).tmod 4=r:=by rw [Int.tmod_eq_emod_of_nonneg ik0];exact t1
       have t3:((i%4:Nat):Int)=r:=by omega
       have t4:((r:Int)==3)=false:=beq_eq_false_iff_ne.2 (by omega);have HS12:=Lib.hid hS10;clear hS10;go_wp2_with fail;go_roundw
       case rel=>exact ⟨i+1,p7,x8,bb,s',E10,R10,bv10,lv10,_,_,by omega,rfl,rfl,rfl,rfl,rfl,by go_num,hIN,Lib.hid (by have h9:=HBN.out;rwa [show (i+1)%4=i%4+1 by omega]),HS12.out,HE10,HR10⟩
       case measure=>simp [intOf];omega
   ·have hm5:((m6:Int)==5)=false:=beq_eq_false_iff_ne.2 h5;have hpl:=zH5 hS HE HR hI HKD.out hP (by omega) ⟨K,at_,⟨.slice xA key.length xa,.slice xB val.length xb,⟨key,ck,val,pg,ct⟩⟩,.slice D okey.length cd,okey⟩ (XIn.oldN HXO.out (by simp) (by have:=HSQ.out.1;simp only;omega) (by have:=HSQ.out.2.1;simp only;omega)) (RdIn.oldN HKO.out (by simp)) hr0 hr1;unfold opV at hpl;simp only at hpl;clear hS
    go_upto_region 29 with (first
     |(go_at_call 14;refine hpl.mono ?_;rintro e w5 ⟨rfl,s',E5,R5,bv5,xs5,hIN,hx5,hy5,hSp,HEp,HRp⟩)
     |fail)
    clear hpl;have hA:=wY hSp HEp HRp hIN hP (by omega) (by omega)
    go_upto_region 30 with (first
     |(go_at_call 15;refine hA.mono ?_;rintro e w10 ⟨rfl,E10,R10,bv10,lv10,u10,m10,hm10,hS10,HE10,HR10⟩)
     |fail)
    have HBN:=Lib.hid (HBK.out.play (u:=u10) hx5 hy5.out hm10 hIN.ok hP (hIN.len hP));clear hA hm10 hSp
    by_cases h3:i%4=3
    ·have t1:(i:Int)%4=3:=by omega
     have t2:(i:Int).tmod 4=3:=by rw [Int.tmod_eq_emod_of_nonneg ik0];exact t1
     have t3:((i%4:Nat):Int)=3:=by omega
     have hOw:=kS (Sep.pick (L:= [_,_,_,_]) [2,3,0,1] (by decide) rfl hS10) (by have:=HBN.out.xl;omega) HBN.out.xs (by have:=HBN.out.ll;omega) HBN.out.ls;clear hS10
     go_upto_region 36 with (first
      |(go_at_call 16;refine hOw.mono ?_;rintro e w11 ⟨rfl,xs11,-,hS11⟩)
      |fail)
     have HS12:=Lib.hid (Sep.pick (L:= [_,_,_,_]) [2,3,0,1] (by decide) rfl (Sep.pick (L:= [_,_,_,_]) [2,3] (by decide) rfl hS11).book6p);clear hOw hS11 t1 t2 t3;go_wp2_with fail;go_roundw
     case rel=>exact ⟨i+1,p,x,_,s',E10,R10,_,_,[],[],by omega,rfl,rfl,rfl,rfl,rfl,by go_num,hIN,Lib.hid (BkOk.nil _),HS12.out,HE10,HR10⟩
     case measure=>simp [intOf];omega
    ·obtain ⟨r,t1⟩:∃r:Int,(i:Int)%4=r:=⟨_,rfl⟩
     have t2:(i:Int).tmod 4=r:=by rw [Int.tmod_eq_emod_of_nonneg ik0];exact t1
     have t3:((i%4:Nat):Int)=r:=by omega
     have t4:((r:Int)==3)=false:=beq_eq_false_iff_ne.2 (by omega);have HS12:=Lib.hid hS10;clear hS10;go_wp2_with fail;go_roundw
     case rel=>exact ⟨i+1,p,x,bb,s',E10,R10,bv10,lv10,_,_,by omega,rfl,rfl,rfl,rfl,rfl,by go_num,hIN,Lib.hid (by have h9:=HBN.out;rwa [show (i+1)%4=i%4+1 by omega]),HS12.out,HE10,HR10⟩
     case measure=>simp [intOf];omega
  ·obtain rfl:i=n:=by omega
   have HX5:=Lib.hid HBK.out.xl;have hOw:=kS (Sep.pick (L:= [_,_,_,_]) [2,3,0,1] (by decide) rfl hS) (by omega) HBK.out.xs (by omega) HBK.out.ls;clear hS
   go_upto_region 38 with (first
    |(go_at_call 16;refine hOw.mono ?_;rintro e w5 ⟨rfl,xs5,hx5,hS5⟩)
    |fail)
   have hA:=wY (Sep.pick (L:= [_,_,_,_]) [2,3,0,1] (by decide) rfl hS5) HE HR hI hP (by omega) (by omega);clear hOw hS5
   go_wp2_with (first
    |(go_at_call 15;refine hA.mono ?_;rintro e w6 ⟨rfl,E10,R10,bv10,lv10,u10,m10,hm10,hS10,HE10,HR10⟩)
    |fail)
   go_ret;exact ⟨rfl,hS10.belowOld (_v:=w) (by simp)⟩
theorem zFW (kind:Int) (P:Nat) (hkb:zO kind=true) (hpb:zT (P:Int)=true) (v:Value) (l:List OpX) (w:World) (hl:RdOps w v l) (hsz:∀o∈l,o.x.c.key.length≤140737488351232∧o.x.c.val.length≤140737488351232∧o.key.length≤140737488351232):
 Calls Tryz.prog 3 #[.int .i64 2,.int .i64 kind,.int .i64 (P:Int),v] w fun e w'=>e= .returned (.bool true)∧Below w.heap.size w w':=by
 obtain ⟨A,c,rfl,hlc,hcm,-⟩:=hl.form;have hcm':c≤9223372036854775807:=hcm;have hrg:=zZ hpb;have hkd:kind=2∨kind=3:=of_decide_eq_true hkb
 have hP:P≤65536:=by omega
 have hP2:512≤P:=by omega
 have HL:=Lib.hid hl;have HSZ:=Lib.hid hsz;have HKB:=Lib.hid hkb;have HPB:=Lib.hid hpb;have HKD:=Lib.hid hkd;clear hcm hl hsz hkb hpb hkd hrg;go_enter Tryz.func3,Tryz.ntmps3;go_upto_region 4 with (first|(go_at_call 7;(with_reducible refine (cE _).mono ?_);rintro e w1 ⟨rfl,hB⟩)|fail);have hS1:=(Sep.start w).below hB;have hN1:=iQ hS1 HKB.out HPB.out;clear hS1 hB
 go_upto_region 5 with (first
  |(go_at_call 8;(with_reducible refine hN1.mono ?_);rintro e w2 ⟨p0,rfl,hP1⟩)
  |fail)
 obtain ⟨E1,hS2,B1⟩:=NdP2.sep hP1;have hR:=zJT hS2 HKB.out HPB.out;have HB1:=Lib.hid B1;clear hN1 hP1 hS2 B1
 go_upto_region 6 with (first
  |(go_at_call 9;(with_reducible refine hR.mono ?_);rintro e w3 ⟨x0,rfl,hP2⟩)
  |fail)
 obtain ⟨R1,hS3,B2⟩:=RnP2.sep hP2;have HB2:=Lib.hid B2;have hS4:=Sep.pick (L:= [_,_,_,_,_]) [3,2,0,1,4] (by decide) rfl hS3.book6p;clear hR hP2 B2 hS3;go_upto_region 12 with (fail);generalize hwb:w3.alloc (.cells #[.slice none 0 0,.slice none 0 0] 40)=w4 at*;generalize w3.heap.size=b0 at*;clear hwb;obtain ⟨n,hnn⟩:∃n,l.length=n:=⟨_,rfl⟩;have HN:=Lib.hid hnn;rw [hnn] at hlc;rw [hnn];clear hnn;have hI0:NdI2 kind P ⟨[],[],0⟩:=zHK (by omega);have HI0:=Lib.hid hI0;clear hI0
 go_loopw [10,11,12,13,14,15] (fun nv ev xv fv bkv iv wr=>∃(i p x bb:Nat) (s:KP) (E R:Ent) (bv lv:Value) (xs:List (Value×List UInt8)) (ls:List (Value×Nat)),i≤n∧nv=tH p∧ev= .int .i64 0∧xv= .pointer (some ⟨x,0,none⟩)∧fv= .int .i64 0∧bkv= .pointer (some ⟨bb,0,none⟩)∧iv= .int .i64 (i:Int)∧NdI2 kind P s∧Hid (BkOk (i%4) xs ls)∧
  Sep w wr [E,R,yJ 40 bb [lv] bv xs,xR lv ls,yK w]∧Hid (∀(W:World) (M:List Ent),Sep w W (E::M)→NdP2 w W M p P kind s)∧Hid (∀(W:World) (M:List Ent),Sep w W (R::M)→RnP2 w W M x P kind s)) (fun _ _ _ _ _ iv _=>n-(intOf iv).toNat)
 case atStart=>exact ⟨0,p0,x0,b0,⟨[],[],0⟩,E1,R1,_,_,[],[],Nat.zero_le _,rfl,rfl,rfl,rfl,rfl,rfl,HI0.out,Lib.hid (BkOk.nil _),hS4,HB1,HB2⟩
 case round=>
  clear hS4 HB1 HB2;obtain ⟨i,p,x,bb,s,E,R,bv,lv,xs,ls,hi,rfl,rfl,rfl,rfl,rfl,rfl,hI,HBK,hS,HE,HR⟩:=hrel;have hi4:i%4<4:=Nat.mod_lt _ (by omega)
  have hxl:xs.length≤300000:=by have:=HBK.out.xl;omega
  have hll:ls.length≤10:=by have:=HBK.out.ll;omega
  clear hi4
  by_cases hlt:i<n
  ·have ik:(i:Int)<(n:Int):=by omega
   have ik0:(0:Int)≤(i:Int):=by omega
   have hil:i<l.length:=by rw [HN.out];exact hlt
   have HLo:=HL.out;have hok:=HLo.ok _ (List.getElem_mem hil);have hsz:=HSZ.out _ (List.getElem_mem hil);obtain ⟨ad,rfl,c0,c1,c2,c3,c4,c5,c6,c7⟩:=HLo.at_ hil;replace c0:=hS.cellO (v:=w) (by simp) c0;replace c1:=hS.cellO (v:=w) (by simp) c1;replace c2:=hS.cellO (v:=w) (by simp) c2;replace c3:=hS.cellO (v:=w) (by simp) c3;replace c4:=hS.cellO (v:=w) (by simp) c4;replace c5:=hS.cellO (v:=w) (by simp) c5;replace c6:=hS.cellO (v:=w) (by simp) c6;replace c7:=hS.cellO (v:=w) (by simp) c7;generalize l[i]=q at*;obtain ⟨K,at_,ox,kv,okey⟩:=q;obtain ⟨hxo,hko,hr0,hr1⟩:=hok;simp only at c0 c1 c2 c3 c4 c5 c6 c7 hxo hko hr0 hr1 hsz;obtain ⟨D,cd,rfl,-⟩:=hko.form;obtain ⟨xA,xa,xB,xb,key,ck,val,pg,ct,rfl,-,-⟩:=CV.form hxo;simp only at c0 c1 c2 c3 c4 c5 c6 c7 hsz;have HXO:=Lib.hid hxo;have HKO:=Lib.hid hko;have HSQ:=Lib.hid hsz;obtain ⟨a6,m6,e1,⟨e2,e2'⟩,e3,e4,hm⟩:=zGK hr0;clear HLo hxo hko hsz
   by_cases h5:m6=5
   ·subst h5;have hiB:=zCY;obtain ⟨his,hbl,heg⟩:=zFE hI HKB.out HPB.out;have hby:=zIL (HE.out _ _ hS) hI HKB.out HPB.out;have hrb:=fun (W:World) (M:List Ent) (h:Sep w W (R::M))=>zH0 (HR.out W M h) hI HKB.out HPB.out
    have HOPN:=Lib.hid (fun (W:World) (M:List Ent) (vv:Value) (hh:Sep w W M) (hv:RdB W vv (x9 kind s.l P))=>by
     have h9:=zI3 (by rw [hbl];omega) heg his hh hv;rw [hbl] at h9
     exact h9)
    have HOPR:=Lib.hid (fun (W:World) (M:List Ent) (vv:Value) (hh:Sep w W M) (hv:RdB W vv (x9 kind s.l P))=>by
     have h9:=zGR (by rw [hbl];omega) heg his hh hv;rw [hbl] at h9
     exact h9)
    have hIN:NdI2 kind P (zDK kind s.l):=by have h9:=zKQ his;rwa [hbl] at h9
    have HBL:=Lib.hid hbl;generalize zDK kind s.l=s' at*;generalize x9 kind s.l P=b at*;have HRB:=Lib.hid hrb;clear his hbl heg hrb
    go_upto_region 17 with (first
     |(go_at_call 216;refine hby.mono ?_;rintro e w5 ⟨v5,rfl,hN5⟩;obtain ⟨E5,hS5,-⟩:=NdP2.sep hN5;obtain ⟨g5,c5,rfl⟩:=(show OwB w5 0 v5 b from hS5.tail.head).some' (n:=P) HBL.out (by omega))
     |fail)
    have hrb:=HRB.out _ _ (Sep.pick (L:= [_,_,_]) [2,0,1] (by decide) rfl hS5);clear hby hN5 hS5 HRB
    go_upto_region 18 with (first
     |(go_at_call 11;refine hrb.mono ?_;rintro e w6 ⟨v6,rfl,hN6⟩;obtain ⟨R6,hS6,-⟩:=RnP2.sep hN6;obtain ⟨g6,c6,rfl⟩:=(show OwB w6 0 v6 b from hS6.tail.head).some' (n:=P) HBL.out (by omega))
     |fail)
    have q5:=yM (OwB.rd (show OwB w6 0 (.slice (some ⟨g5,0,none⟩) P c5) b from hS6.of_mem (E:=zB (.slice (some ⟨g5,0,none⟩) P c5) b) (by simp)));have q6:=yM (OwB.rd (show OwB w6 0 (.slice (some ⟨g6,0,none⟩) P c6) b from hS6.of_mem (E:=zB (.slice (some ⟨g6,0,none⟩) P c6) b) (by simp)));have hO:=HOPN.out _ _ (.slice (some ⟨g5,0,none⟩) P c5) hS6 (OwB.rd (show OwB w6 0 (.slice (some ⟨g5,0,none⟩) P c5) b from hS6.of_mem (E:=zB (.slice (some ⟨g5,0,none⟩) P c5) b) (by simp)));clear hrb hN6 hS6 HOPN;go_upto_region 20 with (fail);clear q5 q6
    go_upto_region 21 with (first
     |(go_at_call 12;refine hO.mono ?_;rintro e w7 ⟨p7,rfl,hN7⟩)
     |fail)
    obtain ⟨E7,hS7,B7⟩:=NdP2.sep hN7;have HEp:=Lib.hid B7;have hO:=HOPR.out _ _ (.slice (some ⟨g6,0,none⟩) P c6) hS7 (OwB.rd (show OwB w7 0 (.slice (some ⟨g6,0,none⟩) P c6) b from hS7.of_mem (E:=zB (.slice (some ⟨g6,0,none⟩) P c6) b) (by simp)));clear hN7 B7 hS7 HOPR
    go_upto_region 22 with (first
     |(go_at_call 13;refine hO.mono ?_;rintro e w8 ⟨x8,rfl,hN8⟩)
     |fail)
    obtain ⟨R8,hS8,B8⟩:=RnP2.sep hN8;have HRp:=Lib.hid B8;have hS9:Sep w w8 (zB (.slice (some ⟨g5,0,none⟩) P c5) b:: [E7,R8,yJ 40 bb [lv] bv xs,xR lv ls,yK w]):=Sep.pick (L:= [_,_,_,_,_,_,_,_,_]) [5,1,0,6,7,8] (by decide) rfl hS8;clear hO hN8 B8 hS8;go_upto_region 25 with (fail)
    go_loopw [19] (fun jv wq=>∃(j:Nat) (y:List UInt8),j≤P∧jv= .int .i64 (j:Int)∧Hid (y.length=P)∧Sep w wq (zB (.slice (some ⟨g5,0,none⟩) P c5) y:: [E7,R8,yJ 40 bb [lv] bv xs,xR lv ls,yK w])) (fun jv _=>P-(intOf jv).toNat)
    case atStart=>exact ⟨0,_,Nat.zero_le _,rfl,HBL,hS9⟩
    case round=>
     clear hS9;obtain ⟨j,y,hj,rfl,HX,hS9⟩:=hrel
     by_cases hjl:j<P
     ·have jk:(j:Int)<(P:Int):=by omega
      have hix:j<y.length:=by rw [HX.out];exact hjl
      have hox:OwB _ 0 (.slice (some ⟨g5,0,none⟩) P c5) y:=hS9.head;have y0:=hox.cell hix;have f0:=hox.frozen hix;have HS2:=Lib.hid (hS9.setB j 99);have HX2:Hid ((y.set j 99).length=P):=Lib.hid (by rw [List.length_set];exact HX.out);clear hS9 hox;go_wp2_with fail;go_roundw
      case rel=>exact ⟨j+1,y.set j 99,by omega,by go_num,HX2,HS2.out⟩
      case measure=>simp [intOf];omega
     ·obtain rfl:j=P:=by omega
      have hSp:=hS9.tail;clear hS9 hjl hj;have hA:=l7 hSp HEp HRp hIN hP (by omega) (by omega)
      go_upto_region 30 with (first
       |(go_at_call 15;refine hA.mono ?_;rintro e w10 ⟨rfl,E10,R10,bv10,lv10,u10,m10,hm10,hS10,HE10,HR10⟩)
       |fail)
      have HBN:=Lib.hid (HBK.out.play (u:=u10) (Nat.le_add_right _ 2) (fun h=>h) hm10 hIN.ok hP (hIN.len hP));clear hA hm10 hSp
      by_cases h3:i%4=3
      ·have t1:(i:Int)%4=3:=by omega
       have t2:(i:Int).tmod 4=3:=by rw [Int.tmod_eq_emod_of_nonneg ik0];exact t1
       have t3:((i%4:Nat):Int)=3:=by omega
       have hOw:=kS (Sep.pick (L:= [_,_,_,_]) [2,3,0,1] (by decide) rfl hS10) (by have:=HBN.out.xl;omega) HBN.out.xs (by have:=HBN.out.ll;omega) HBN.out.ls;clear hS10
       go_upto_region 36 with (first
        |(go_at_call 16;refine hOw.mono ?_;rintro e w11 ⟨rfl,xs11,-,hS11⟩)
        |fail)
       have HS12:=Lib.hid (Sep.pick (L:= [_,_,_,_]) [2,3,0,1] (by decide) rfl (Sep.pick (L:= [_,_,_,_]) [2,3] (by decide) rfl hS11).book6p);clear hOw hS11 t1 t2 t3;go_wp2_with fail;go_roundw
       case rel=>exact ⟨i+1,p7,x8,_,s',E10,R10,_,_,[],[],by omega,rfl,rfl,rfl,rfl,rfl,by go_num,hIN,Lib.hid (BkOk.nil _),HS12.out,HE10,HR10⟩
       case measure=>simp [intOf];omega
      ·obtain ⟨r,t1⟩:∃r:Int,(i:Int)%4=r:=⟨_,rfl⟩
       have t2:(i:Int).tmod 4=r:=by rw [Int.tmod_eq_emod_of_nonneg ik0];exact t1
       have t3:((i%4:Nat):Int)=r:=by omega
       have t4:((r:Int)==3)=false:=beq_eq_false_iff_ne.2 (by omega);have HS12:=Lib.hid hS10;clear hS10;go_wp2_with fail;go_roundw
       case rel=>exact ⟨i+1,p7,x8,bb,s',E10,R10,bv10,lv10,_,_,by omega,rfl,rfl,rfl,rfl,rfl,by go_num,hIN,Lib.hid (by have h9:=HBN.out;rwa [show (i+1)%4=i%4+1 by omega]),HS12.out,HE10,HR10⟩
       case measure=>simp [intOf];omega
   ·have hm5:((m6:Int)==5)=false:=beq_eq_false_iff_ne.2 h5;have hpl:=zIA hS HE HR hI HKD.out hP (by omega) ⟨K,at_,⟨.slice xA key.length xa,.slice xB val.length xb,⟨key,ck,val,pg,ct⟩⟩,.slice D okey.length cd,okey⟩ (XIn.oldN HXO.out (by simp) (by have:=HSQ.out.1;simp only;omega) (by have:=HSQ.out.2.1;simp only;omega)) (RdIn.oldN HKO.out (by simp)) hr0 hr1;unfold opV at hpl;simp only at hpl;clear hS
    go_upto_region 29 with (first
     |(go_at_call 14;refine hpl.mono ?_;rintro e w5 ⟨rfl,s',E5,R5,bv5,xs5,hIN,hx5,hy5,hSp,HEp,HRp⟩)
     |fail)
    clear hpl;have hA:=l7 hSp HEp HRp hIN hP (by omega) (by omega)
    go_upto_region 30 with (first
     |(go_at_call 15;refine hA.mono ?_;rintro e w10 ⟨rfl,E10,R10,bv10,lv10,u10,m10,hm10,hS10,HE10,HR10⟩)
     |fail)
    have HBN:=Lib.hid (HBK.out.play (u:=u10) hx5 hy5.out hm10 hIN.ok hP (hIN.len hP));clear hA hm10 hSp
    by_cases h3:i%4=3
    ·have t1:(i:Int)%4=3:=by omega
     have t2:(i:Int).tmod 4=3:=by rw [Int.tmod_eq_emod_of_nonneg ik0];exact t1
     have t3:((i%4:Nat):Int)=3:=by omega
     have hOw:=kS (Sep.pick (L:= [_,_,_,_]) [2,3,0,1] (by decide) rfl hS10) (by have:=HBN.out.xl;omega) HBN.out.xs (by have:=HBN.out.ll;omega) HBN.out.ls;clear hS10
     go_upto_region 36 with (first
      |(go_at_call 16;refine hOw.mono ?_;rintro e w11 ⟨rfl,xs11,-,hS11⟩)
      |fail)
     have HS12:=Lib.hid (Sep.pick (L:= [_,_,_,_]) [2,3,0,1] (by decide) rfl (Sep.pick (L:= [_,_,_,_]) [2,3] (by decide) rfl hS11).book6p);clear hOw hS11 t1 t2 t3;go_wp2_with fail;go_roundw
     case rel=>exact ⟨i+1,p,x,_,s',E10,R10,_,_,[],[],by omega,rfl,rfl,rfl,rfl,rfl,by go_num,hIN,Lib.hid (BkOk.nil _),HS12.out,HE10,HR10⟩
     case measure=>simp [intOf];omega
    ·obtain ⟨r,t1⟩:∃r:Int,(i:Int)%4=r:=⟨_,rfl⟩
     have t2:(i:Int).tmod 4=r:=by rw [Int.tmod_eq_emod_of_nonneg ik0];exact t1
     have t3:((i%4:Nat):Int)=r:=by omega
     have t4:((r:Int)==3)=false:=beq_eq_false_iff_ne.2 (by omega);have HS12:=Lib.hid hS10;clear hS10;go_wp2_with fail;go_roundw
     case rel=>exact ⟨i+1,p,x,bb,s',E10,R10,bv10,lv10,_,_,by omega,rfl,rfl,rfl,rfl,rfl,by go_num,hIN,Lib.hid (by have h9:=HBN.out;rwa [show (i+1)%4=i%4+1 by omega]),HS12.out,HE10,HR10⟩
     case measure=>simp [intOf];omega
  ·obtain rfl:i=n:=by omega
   have HX5:=Lib.hid HBK.out.xl;have hOw:=kS (Sep.pick (L:= [_,_,_,_]) [2,3,0,1] (by decide) rfl hS) (by omega) HBK.out.xs (by omega) HBK.out.ls;clear hS
   go_upto_region 38 with (first
    |(go_at_call 16;refine hOw.mono ?_;rintro e w5 ⟨rfl,xs5,hx5,hS5⟩)
    |fail)
   have hA:=l7 (Sep.pick (L:= [_,_,_,_]) [2,3,0,1] (by decide) rfl hS5) HE HR hI hP (by omega) (by omega);clear hOw hS5
   go_wp2_with (first
    |(go_at_call 15;refine hA.mono ?_;rintro e w6 ⟨rfl,E10,R10,bv10,lv10,u10,m10,hm10,hS10,HE10,HR10⟩)
    |fail)
   go_ret;exact ⟨rfl,hS10.belowOld (_v:=w) (by simp)⟩
theorem zAL (eng kind page:Int) (hpr:yE page) (v:Value) (l:List OpX) (w:World) (hl:RdOps w v l) (hsz:∀o∈l,o.x.c.key.length≤140737488351232∧o.x.c.val.length≤140737488351232∧o.key.length≤140737488351232):
 Calls Tryz.prog 3 #[.int .i64 eng,.int .i64 kind,.int .i64 page,v] w fun e w'=>e= .returned (.bool true)∧Below w.heap.size w w':=by
 by_cases h1:eng=1
 ·subst h1
  cases hnb:(zO kind&&zT page) with
  |false=>exact cF 1 kind page 1 (by decide) v w (fun W=>zCR page hpr hnb W) (fun w0 W L h=>zGV h page (by rw [Bool.and_comm];exact hnb))
  |true=>
   rw [Bool.and_eq_true] at hnb;have hrg:=zZ hnb.2;obtain ⟨P,rfl⟩:∃P:Nat,page=(P:Int):=⟨page.toNat,by omega⟩;exact zD3 kind P hnb.1 hnb.2 v l w hl hsz
 by_cases h2:eng=2
 ·subst h2
  cases hnb:(zO kind&&zT page) with
  |false=>exact cF 2 kind page 1 (by decide) v w (fun W=>zB8 page hpr hnb W) (fun w0 W L h=>zGT h page (by rw [Bool.and_comm];exact hnb))
  |true=>
   rw [Bool.and_eq_true] at hnb;have hrg:=zZ hnb.2;obtain ⟨P,rfl⟩:∃P:Nat,page=(P:Int):=⟨page.toNat,by omega⟩;exact zFW kind P hnb.1 hnb.2 v l w hl hsz
 ·exact cF eng kind page 80 (by decide) v w (fun W=>oT eng kind page h1 h2 W) (fun w0 W L h=>zF9 h eng page h1 h2)
end Go.Proofs.YtfcnkpofcekmgaaGreat
namespace Go.Proofs.YtfcnkpofcekmgaaGreat
open Go.RowKit Go.WideShapes Go.ChangeShapes
theorem zI5 {n:Int} (h:(Lit.int .i64 n).wf=true): -9223372036854775808≤n∧n≤9223372036854775807:=by
 simp [Lit.wf,IntKind.min,IntKind.max,IntKind.signed,IntKind.bits] at h;exact h
end Go.Proofs.YtfcnkpofcekmgaaGreat
namespace Go.Proofs.YtfcnkpofcekmgaaGreat.nodePlays
open Go.ChangeShapes Go.WideShapes Go.ChangeAt Go.RowKit
theorem own:ownKnob Tryz.prog.godebug=none:=by kernel_rfl
theorem laidOut:laidOutB Tryz.prog=true:=by kernel_rfl
theorem lifted (os:Os) (started:os.Started) (H:Type) (enc:TypeId×Value→H):
 ReturnsInHanded {} Tryz.checked os 3 .any (Rows.nodePlaysSpec.pre6 enc Tryz.prog Tryz.f3 Rows.nodePlaysRow.domain false) (Rows.nodePlaysSpec.post enc Tryz.prog Tryz.f3 false true false false):=by
 refine zBZ (C:=Tryz.checked) (tb:=4) own started (by kernel_rfl) Tryz.func3
  (ChangeSpec.witness6 (enc:=enc) (C:=Tryz.checked) false ⟨#[], #[.int .i64 0,.int .i64 0,.int .i64 0,.slice none 0 0],[]⟩ 8 (by kernel_rfl) (by kernel_rfl) (by kernel_rfl) (by kernel_rfl))
  rfl rfl Tryz.underlying4 laidOut (by kernel_rfl) (fun ds hd=> ?_) ?_
 ·match ds,hd with
  | [d0,d1,d2,d3],_=>rfl
 ·intro W base args ds p hval0 hA0 hsz0;have hval:∀(j:Nat) t v,Tryz.f3.params[j]? =some t→args[j]? =some v→Value.okWide Tryz.prog W .any base t v:=hval0;have hA:DataW.TrodAll enc Tryz.prog W 0 (fun _=>true) true Tryz.f3.params.toList args.toList ds p:=hA0;have hsz:(DataW.weightsEach Tryz.prog Tryz.f3.params.toList ds).all (· ≤reachBytes)=true:=hsz0;clear hval0 hA0 hsz0;rw [Tryz.params3] at hA hval hsz;obtain ⟨v0,v1,v2,v3,d0,d1,d2,d3,p0,p1,p2,p3,rfl,rfl,rfl,h0,h1,h2,h3⟩:=trodAll_four hA;obtain ⟨n0,rfl,_,_,g0⟩:=open_int Tryz.underlying3 (hval 0 _ v0 rfl rfl) h0;obtain ⟨n1,rfl,_,_,g1⟩:=open_int Tryz.underlying3 (hval 1 _ v1 rfl rfl) h1;obtain ⟨n2,rfl,_,_,g2⟩:=open_int Tryz.underlying3 (hval 2 _ v2 rfl rfl) h2;obtain ⟨l,hl,hn,hs⟩:=zFL (hval 3 _ v3 rfl rfl) h3 hsz (j:=3) rfl rfl;exact zAL n0 n1 n2 (zI5 g2) v3 l W hl hs
theorem proved:Rows.NodePlaysSaid:=
 OpenClaim.holds_of_wide 3 Tryz.f3 rfl rfl rfl rfl rfl rfl rfl ⟨rfl,rfl,rfl,rfl,rfl⟩ rfl rfl rfl rfl rfl (by kernel_rfl) Tryz.func3 (by kernel_rfl)
  (of_decide_eq_true (by kernel_rfl)) (by unfold Func.isWrapper;first|(rw [if_pos (by decide+kernel)];kernel_rfl)|(rw [if_neg (by decide+kernel)];exact ⟨rfl,rfl⟩))
  (fun os started H enc _=>lifted os started H enc)
end Go.Proofs.YtfcnkpofcekmgaaGreat.nodePlays
