/- Texts joined. -/
import Derived.Test.YtfcnkpofcekmgaaGreatNQ11
set_option maxRecDepth 100000
set_option maxHeartbeats 64000000
namespace Go.Proofs.YtfcnkpofcekmgaaGreat
open Go.RowKit
def pkB (p:Nat) (kind:Int) (P:Nat) (u pv:Value) (used waste:Nat):Ent:=z7 p 150 [.int .i64 kind,.int .i64 (P:Int),u,pv,.int .i64 (used:Int),.int .i64 (waste:Int)]
def CsIn (M:List Ent) (u:Value) (l:List CV):Prop:=∀W,(∀E∈M,E.p W)→RdCs W u l
theorem CsIn.at_ {M M':List Ent} {u:Value} {l:List CV} {w0 w:World} (h:CsIn M u l) (hS:Sep w0 w M') (hs:∀E∈M,E∈M'):RdCs w u l:=h w (fun E hE=>hS.of_mem (hs E hE))
theorem nI {w0 w:World} {M:List Ent} {p P:Nat} {kind:Int} {u pv:Value} {used waste:Nat} {l:List CV} (hS:Sep w0 w (pkB p kind P u pv used waste::M)) (hM:CsIn M u l) (hf:xT (pcs l)≤140737488355328):
 Calls Tryz.prog 137 #[.pointer (some ⟨p,0,none⟩)] w fun e w'=>(∃x,e= .returned x)∧∃pv',Sep w0 w' (pkB p kind P u pv' (zS kind (pcs l)) 0::zB pv' (xE kind (pcs l))::M):=by
 have hrd:=hM.at_ hS (fun E hE=>List.mem_cons_of_mem _ hE);obtain ⟨U,uc,rfl,hm,hc⟩:=hrd.slice;have hpk:∀(i:Nat) (hi:i<(pcs l).length),¬(kind=3∧i=0)→zD kind (pcs l)≤(pcs l)[i].key.length:=fun i hi hn=>(xS (kind:=kind) hi hn).1
 have hspos:0<zD kind (pcs l)→∃m,l.length=m+1∧∃h:m<l.length,zD kind (pcs l)≤l[m].c.key.length∧xE kind (pcs l)=l[m].c.key.take (zD kind (pcs l))∧l[m].c.key.length≤140737488355328:=fun hs=>by
  obtain ⟨j,hj,hjn⟩:=jN hs;rw [zA] at hj;obtain ⟨m,hm1⟩:∃m,l.length=m+1:=⟨l.length-1,by omega⟩
  have hlt:m<l.length:=by omega
  have hkm:=hpk m (by rw [zA];exact hlt) (fun h=>hjn ⟨h.1,by omega⟩)
  have hpf:xE kind (pcs l)=((pcs l)[m]'(by rw [zA];exact hlt)).key.take (zD kind (pcs l)):=by
   unfold xE
   have e:(pcs l).getLast? =some ((pcs l)[m]'(by rw [zA];exact hlt)):=by
    have e9:(pcs l).length-1=m:=by rw [zA];omega
    rw [List.getLast?_eq_getElem?,e9];exact List.getElem?_eq_getElem _
   rw [e]
  have hb:=bO (show (pcs l)[m]'(by rw [zA];exact hlt)∈pcs l from List.getElem_mem _);rw [zV hlt] at hkm hpf hb;exact ⟨m,hm1,hlt,hkm,hpf,by omega⟩
 have hzero:zD kind (pcs l)=0→xE kind (pcs l)= []:=fun h=>List.eq_nil_of_length_eq_zero (by rw [yQ];exact h)
 have hsb:zD kind (pcs l)≤1152921504606846976:=by
  rcases Nat.eq_zero_or_pos (zD kind (pcs l)) with h|h
  ·omega
  ·obtain ⟨m,-,h1,h2,-,h3⟩:=hspos h;omega
 have hsh:∀W,RdCs W (.slice U l.length uc) l→Calls Tryz.prog 139 #[.int .i64 kind,.slice U l.length uc] W fun e w'=>e= .returned (.int .i64 (zD kind (pcs l):Nat))∧Below W.heap.size W w':=fun W hW=>g9 kind _ l W hW;have htk:∀W,RdCs W (.slice U l.length uc) l→Calls Tryz.prog 138 #[.int .i64 kind,.slice U l.length uc,.int .i64 (zD kind (pcs l):Nat)] W fun e w'=>e= .returned (.int .i64 (zS kind (pcs l):Nat))∧Below W.heap.size W w':=fun W hW=>gB kind _ l (zD kind (pcs l)) W hW (by omega) (by omega) hpk;obtain ⟨s,hs⟩:∃s,zD kind (pcs l)=s:=⟨_,rfl⟩;obtain ⟨z,hz⟩:∃z,zS kind (pcs l)=z:=⟨_,rfl⟩;obtain ⟨pre,hpre⟩:∃z,xE kind (pcs l)=z:=⟨_,rfl⟩;rw [hs,hpre] at hspos hzero;rw [hs] at hsh htk hsb;rw [hz] at htk⊢;rw [hpre];have HSP:=Lib.hid hspos;have HZ:=Lib.hid hzero;have HTK:=Lib.hid htk;have hbp:OBlk w p 150 [.int .i64 kind,.int .i64 (P:Int),.slice U l.length uc,pv,.int .i64 (used:Int),.int .i64 (waste:Int)]:=hS.head;obtain ⟨b0,b1,b2,b3,b4,b5⟩:=yZ hbp;have hsh1:=fun m=>hsh (w.drewN m) (hrd.below (zK (Below.refl _ _) m));clear hs hz hpre hpk hspos hzero htk hsh hf;go_enter Tryz.func137,Tryz.ntmps137;go_upto_region 0 with (fail)
 go_cut [2] (fun sl wx=>sl= .int .i64 (s:Int)∧Below w.heap.size w wx)
 case first=>
  go_region_held3 (fun w'=>w'.cell? ⟨p,0,none⟩=some (.int .i64 kind)∧w'.cell? ⟨p,2,none⟩=some (.slice U l.length uc))
   (first|exact ⟨b0,b2⟩|exact ⟨(yZ (hbp.drew.below hw2 hbp.lt)).1,(yZ (hbp.drew.below hw2 hbp.lt)).2.2.1⟩)
   (first
    |(go_at_call 139;refine (hsh1 1).mono ?_;rintro e w2 ⟨rfl,hw2⟩)
    |fail)
  go_wp2_with fail;go_meet;exact ⟨rfl,(Below.refl _ _).drew.trans hw2⟩
 case rest=>
  obtain ⟨rfl,hw2⟩:=hcut;have hS2:=hS.below hw2;clear hsh1 hbp b0 b1 b2 b3 b4 b5 hrd hS hw2;have hbp:OBlk wc p 150 [.int .i64 kind,.int .i64 (P:Int),.slice U l.length uc,pv,.int .i64 (used:Int),.int .i64 (waste:Int)]:=hS2.head;obtain ⟨b0,b1,b2,b3,b4,b5⟩:=yZ hbp;have f3:=hbp.frozen (j:=3) (by simp);go_upto_region 2 with (fail);have hS3:Sep w0 _ (pkB p kind P (.slice U l.length uc) (.slice none 0 0) used waste::M):=hS2.setCell 3 (.slice none 0 0);clear hS2 hbp b0 b1 b2 b3 b4 b5 f3;generalize wc.setCell ⟨p,3,none⟩ (.slice none 0 0)=w3 at*
  go_upto_if 16 with (fail)
  go_cut [] (fun wx=>∃pv',Sep w0 wx (pkB p kind P (.slice U l.length uc) pv' used waste::zB pv' pre::M))
  case first=>
   by_cases hs0:0<s
   ·have i1:(0:Int)<(s:Int):=by omega
    obtain ⟨m,hm1,hlt,hkm,hpf,hkb⟩:=HSP.out hs0;have hrd3:=hM.at_ hS3 (fun E hE=>List.mem_cons_of_mem _ hE);obtain ⟨ad,B,b,rfl,q0,hkr⟩:=hrd3.key_at' hlt;generalize l[m].c.key=key at*;obtain ⟨A7,c7,hrun,hrd7⟩:=hkr.run_h s hkm;have hbp:OBlk w3 p 150 [.int .i64 kind,.int .i64 (P:Int),.slice (some ad) l.length uc,.slice none 0 0,.int .i64 (used:Int),.int .i64 (waste:Int)]:=hS3.head;obtain ⟨b0,b1,b2,b3,b4,b5⟩:=yZ hbp;have f3:=hbp.frozen (j:=3) (by simp)
    have j1:(0:Int)≤(l.length:Int)-1:=by omega
    have j2:(l.length:Int)-1<(l.length:Int):=by omega
    have j3:((l.length:Int)-1).toNat=m:=by omega
    have j4:IntKind.i64.wrap ((l.length:Int)-1)=(l.length:Int)-1:=by rw [IntKind.wrap_i64];omega
    have j5:(1:Int)≤(l.length:Int):=by omega
    have j6:0<l.length:=by omega
    have j7:l.length-1=m:=by omega
    have hkl:(key.take s).length=s:=by rw [List.length_take];omega
    have hcl:=bU (.slice A7 s c7) (key.take s) w3.drew hrd7 (by rw [hkl];omega);clear hkl hrd7;generalize key.take s=kt at*;have HPF:=Lib.hid hpf;have HM1:=Lib.hid hm1;have hpz:=hbp.lt;clear hrd3 hpf hm1;go_upto_region 3 with (fail)
    go_region_law
     (first
      |(go_simp;go_at_call 167;refine hcl.mono ?_;rintro e w4 ⟨v4,rfl,ho4,hw4⟩;obtain ⟨V4,vc4,rfl⟩:=Own.slice ho4;have hB4:=hbp.drew.below hw4 hpz;obtain ⟨d0,d1,d2,d3,d4,d5⟩:=yZ hB4;have g3:=hB4.frozen (j:=3) (by simp);have hS4:=hS3.drew.bytes hw4 ho4 (Nat.le_refl _))
      |fail)
    all_goals
     go_wp2_with fail;go_meet;exact ⟨_,by rw [HPF.out];exact hS4.sw1.setCell 3 _⟩
   ·have i1:¬(0:Int)<(s:Int):=by omega
    go_wp2_with fail;go_meet;exact ⟨_,by rw [HZ.out (by omega)];exact hS3.nil.sw1⟩
  case rest=>
   clear hS3;obtain ⟨pv',hS4⟩:=hcut;have hbp:OBlk wc p 150 [.int .i64 kind,.int .i64 (P:Int),.slice U l.length uc,pv',.int .i64 (used:Int),.int .i64 (waste:Int)]:=hS4.head;obtain ⟨b0,b1,b2,b3,b4,b5⟩:=yZ hbp;have hpz:=hbp.lt;have f4:=hbp.frozen (j:=4) (by simp);have f5:=hbp.frozen (j:=5) (by simp);have htk:=HTK.out wc.drew (hM.at_ hS4.drew (fun E hE=>List.mem_cons_of_mem _ (List.mem_cons_of_mem _ hE)));go_upto_region 4 with (fail)
   go_region_law
    (first
     |(go_simp;go_at_call 138;refine htk.mono ?_;rintro e w5 ⟨rfl,hw5⟩;have hB5:=hbp.drew.below hw5 hpz;obtain ⟨d0,d1,d2,d3,d4,d5⟩:=yZ hB5;have g4:=hB5.frozen (j:=4) (by simp);have g5:=hB5.frozen (j:=5) (by simp);have hS5:=hS4.drew.below hw5)
     |fail)
   all_goals
    go_wp2_with fail
    go_end0
    exact ⟨⟨_,rfl⟩,pv',(hS5.setCell 4 (.int .i64 (z:Int))).setCell 5 (.int .i64 0)⟩
theorem oP {w0 w:World} {L:List Ent} (h:Sep w0 w L) (x:CV) (hx:x.ok w) (h1:x.c.key.length≤140737488355328) (h2:x.c.val.length≤140737488355328):
 Calls Tryz.prog 225 #[zJ x] w fun e w'=>∃y:CV,e= .returned (zJ y)∧y.c=x.c∧Sep w0 w' (zB y.kv y.c.key::zB y.vv y.c.val::L):=by
 obtain ⟨A,ca,B,cb,key,ck,val,pg,ct,rfl,hk1,hk2⟩:=CV.form hx;simp only at h1 h2;have hkr:RdB w (.slice A key.length ca) key:=hx.k;have hvr:RdB w (.slice B val.length cb) val:=hx.v;have hS1:=(((Sep.start w).alloc 43 [.slice A key.length ca,.int .i64 ck,.slice B val.length cb,.int .i64 pg,.int .i64 ct])).alloc 43 [.slice none 0 0,.int .i64 0,.slice none 0 0,.int .i64 0,.int .i64 0];have hz1:(w.alloc (.cells [.slice A key.length ca,.int .i64 ck,.slice B val.length cb,.int .i64 pg,.int .i64 ct].toArray 43)).heap.size=w.heap.size+1:=World.size_alloc _ _;rw [hz1] at hS1;clear hz1;unfold zJ;go_enter Tryz.func225,Tryz.ntmps225;go_upto_region 1 with (fail);generalize (w.alloc (.cells #[.slice A key.length ca,.int .i64 ck,.slice B val.length cb,.int .i64 pg,.int .i64 ct] 43)).alloc (.cells #[.slice none 0 0,.int .i64 0,.slice none 0 0,.int .i64 0,.int .i64 0] 43)=w1 at*;have hkr0:=(hS1.drew).rd (v:=w) (by simp) hkr;have hC:OBlk w1 w.heap.size 43 [.slice A key.length ca,.int .i64 ck,.slice B val.length cb,.int .i64 pg,.int .i64 ct]:=hS1.tail.head;obtain ⟨c0,c1,c2,c3,c4⟩:=zC hC
 go_region_law
  (first
   |(go_simp;go_at_call 167;refine (bU _ key _ hkr0 h1).mono ?_;rintro e w4 ⟨vd,rfl,hod,hw4⟩;obtain ⟨K2,kc2,rfl⟩:=Own.slice hod;have hS4:=hS1.drew.bytes hw4 hod (Nat.le_refl _);have hC4:OBlk w4 w.heap.size 43 [.slice A key.length ca,.int .i64 ck,.slice B val.length cb,.int .i64 pg,.int .i64 ct]:=hS4.tail.tail.head;have d2:=hC4.cell' (j:=2) (u:= .slice B val.length cb) rfl;have d0:=hC4.cell' (j:=0) (u:= .slice A key.length ca) rfl;have hvr4:=hS4.rd (v:=w) (by simp) hvr)
   |(go_simp;go_at_call 167;refine (bU _ val _ hvr4 h2).mono ?_;rintro e w5 ⟨ve,rfl,hoe,hw5⟩;obtain ⟨V2,vc2,rfl⟩:=Own.slice hoe;have hS5:=hS4.bytes hw5 hoe (Nat.le_refl _);have hC5:OBlk w5 w.heap.size 43 [.slice A key.length ca,.int .i64 ck,.slice B val.length cb,.int .i64 pg,.int .i64 ct]:=hS5.tail.tail.tail.head;have e2:=hC5.cell' (j:=2) (u:= .slice B val.length cb) rfl;have e0:=hC5.cell' (j:=0) (u:= .slice A key.length ca) rfl;have g2:=hC5.frozen (j:=2) (by simp);have g0:=hC5.frozen (j:=0) (by simp))
   |fail)
 all_goals
  have hS6:Sep w _ (z7 w.heap.size 43 [.slice K2 key.length kc2,.int .i64 ck,.slice V2 val.length vc2,.int .i64 pg,.int .i64 ct]::zB (.slice V2 val.length vc2) val::zB (.slice K2 key.length kc2) key::z7 (w.heap.size+1) 43 [.slice none 0 0,.int .i64 0,.slice none 0 0,.int .i64 0,.int .i64 0]:: [yK w]):=((Sep.sw3 hS5).setCell 0 (.slice K2 key.length kc2)).setCell 2 (.slice V2 val.length vc2);clear c0 c1 c2 c3 c4 d0 d2 e0 e2 g0 g2 hC hC4 hC5 hS4 hS5 hod hoe hkr0 hvr4;generalize (w5.setCell ⟨w.heap.size,0,none⟩ (.slice K2 key.length kc2)).setCell ⟨w.heap.size,2,none⟩ (.slice V2 val.length vc2)=w6 at*;obtain ⟨y0,y1,y2,y3,y4⟩:=zC (show OBlk w6 w.heap.size 43 [.slice K2 key.length kc2,.int .i64 ck,.slice V2 val.length vc2,.int .i64 pg,.int .i64 ct] from hS6.head);have hR6:OBlk w6 (w.heap.size+1) 43 [.slice none 0 0,.int .i64 0,.slice none 0 0,.int .i64 0,.int .i64 0]:=hS6.tail.tail.tail.head;obtain ⟨r0,r1,r2,r3,r4⟩:=zC hR6;obtain ⟨f0,f1,f2,f3,f4⟩:=xJ hR6;go_wp2_with fail;have hF:=(Sep.sw3 hS6).set5 (.slice K2 key.length kc2) (.int .i64 ck) (.slice V2 val.length vc2) (.int .i64 pg) (.int .i64 ct);obtain ⟨e0,e1,e2,e3,e4⟩:=zC (show OBlk _ (w.heap.size+1) 43 [.slice K2 key.length kc2,.int .i64 ck,.slice V2 val.length vc2,.int .i64 pg,.int .i64 ct] from hF.head);refine bodyPost_ret (v:= .agg #[(.slice K2 key.length kc2),.int .i64 ck,(.slice V2 val.length vc2),.int .i64 pg,.int .i64 ct]) ?_ rfl ?_
  ·simp [results,Tryz.results225,go_sem,e0,e1,e2,e3,e4]
  ·exact ⟨⟨(.slice K2 key.length kc2),(.slice V2 val.length vc2),⟨key,ck,val,pg,ct⟩⟩,rfl,rfl,Sep.lift2 (hF.tail.tail.sw1) (List.mem_singleton.2 rfl) h⟩
theorem s9 (u v:Value) (a b:List UInt8) (w:World) (hu:RdB w u a) (hv:RdB w v b):
 Calls Tryz.prog 230 #[u,v] w fun e w'=>e= .returned (.bool (jG a b))∧w'=w:=by
 obtain ⟨A,c,rfl,hm⟩:=hu.form;obtain ⟨B,d,rfl,hm2⟩:=hv.form
 by_cases hle:b.length≤a.length
 ·obtain ⟨A2,c2,hrun,hrd⟩:=hu.run_h b.length hle;have heq:=zA9 _ _ _ _ w hrd hv
  have hE:jG a b=(a.take b.length==b):=by unfold jG;rw [decide_eq_true hle];rfl
  rw [hE];generalize (a.take b.length==b)=E at*
  have i1:(b.length:Int)≤(a.length:Int):=by omega
  clear hE hrd;go_enter Tryz.func230,Tryz.ntmps230;go_wp2_with (first|(go_at_call 134;(with_reducible refine heq.mono ?_);rintro e w1 ⟨rfl,rfl⟩)|fail);go_ret;exact ⟨rfl,rfl⟩
 ·have hE:jG a b=false:=by unfold jG;rw [decide_eq_false hle];rfl
  rw [hE]
  have i1:¬(b.length:Int)≤(a.length:Int):=by omega
  clear hE;go_enter Tryz.func230,Tryz.ntmps230;go_wp2_with fail;go_ret;exact ⟨rfl,rfl⟩
theorem rR {w0 w:World} {L:List Ent} (h:Sep w0 w L) (v:Value) (l:List CV) (hv:RdCs w v l) (hl:l.length≤1000000):
 Calls Tryz.prog 229 #[v] w fun e w'=>∃v',e= .returned v'∧Sep w0 w' (zP 43 5 v' l.length (zF l)::L):=by
 obtain ⟨A,c,rfl,hm,hc⟩:=hv.slice;have q22:∀(w:World) (a:Option Addr) (n c n' c':Nat),(binOp .eql 32 (.slice a n c) (.slice none n' c')).run Tryz.prog w= .ok (.bool a.isNone) w:=fun w a n c n' c'=>Lib.run_eql_slice_nil w _ _ a n c n' c' Tryz.underlying32
 cases A with
 |none=>
  have:l= []:=by
   cases l with
   |nil=>rfl
   |cons x r=>obtain ⟨ad,h,_⟩:=hv.at_ (i:=0) (by simp);cases h
  subst this;go_enter Tryz.func229,Tryz.ntmps229;go_wp2_with fail;go_ret;exact ⟨_,rfl,h.nilC⟩
 |some ad=>
  obtain ⟨i0,hi,hz0,hz1,hz2⟩:=info_parts vP;have hone:=vB hv.ok;have hsrc:=hv.form
  have hbase:Own (w.alloc (.cells #[] 43)) w.heap.size 43 5 (.slice (some ⟨w.heap.size,0,none⟩) 0 0) 0 []:=by
   refine ⟨rfl,.inr ⟨w.heap.size,0,[],rfl,Nat.le_refl _,OBlk.new' w 43 [],?_⟩⟩
   simp
  go_enter Tryz.func229,Tryz.ntmps229
  go_wp2_with (first
   |(at_builtin;refine yP rfl (.tmp 5) (.tmp 6) rfl w.heap.size (.slice (some ⟨w.heap.size,0,none⟩) 0 0) [] rfl hbase _ l rfl (hsrc.alloc _) hone (by simp;omega) (by simp) ?_;intro v' w' ho hg hbk)
   |fail)
  go_ret;rw [List.nil_append] at ho;refine ⟨v',rfl,h.new (((Below.refl w.heap.size w).alloc (Nat.le_refl _) _).grown hg (by simp) (fun k hk=>Nat.le_of_eq (Option.some.inj hk))) (E:=zP _ _ _ _ _) (Own.low ho (Nat.zero_le _)) (fun g hg=>Own.lt ho g hg)⟩
def ruV (l:List UInt8) (at_:Int):Nat×Int×Int:=
 if at_<0∨(l.length:Int)<at_ then (0,0,1)
 else ((ruF 0 0 (l.drop at_.toNat)).1,bif (ruF 0 0 (l.drop at_.toNat)).2.2==0 then at_+(ruF 0 0 (l.drop at_.toNat)).2.1 else 0,(ruF 0 0 (l.drop at_.toNat)).2.2)
def jE (l:List UInt8) (at_:Int) (w:World) (e:Ending) (w':World):Prop:=
 e= .returned (.tuple #[.int .u64 ((ruV l at_).1:Nat),.int .i64 (ruV l at_).2.1,.int .i64 (ruV l at_).2.2])∧w=w'
theorem zBH {i n:Nat} {x:UInt8} {r:List UInt8} (h:i=9∧1<x.toNat):ruF i n (x::r)=(0,0,12):=by rw [ruF,if_pos h]
theorem oM {i n:Nat} {x:UInt8} {r:List UInt8} (h9:¬(i=9∧1<x.toNat)) (h:x.toNat=0∧0<i):ruF i n (x::r)=(0,0,11):=by rw [ruF,if_neg h9,if_pos h]
theorem zA5 {i n:Nat} {x:UInt8} {r:List UInt8} (h9:¬(i=9∧1<x.toNat)) (h:¬(x.toNat=0∧0<i)) (hx:x.toNat<128):ruF i n (x::r)=(n+x.toNat%128*128^i,i+1,0):=by rw [ruF,if_neg h9,if_neg h,if_pos hx]
theorem oN {i n:Nat} {x:UInt8} {r:List UInt8} (h9:¬(i=9∧1<x.toNat)) (hx:¬x.toNat<128):ruF i n (x::r)=ruF (i+1) (n+x.toNat%128*128^i) r:=by
 rw [ruF,if_neg h9,if_neg (by omega),if_neg hx]
theorem zIY (x:UInt8):bits .and .u8 (x.toNat:Int) 127=((x.toNat%128:Nat):Int):=by
 have hx:=x.toNat_lt
 have h1:(BitVec.ofInt 8 (x.toNat:Int)).toNat=x.toNat:=by rw [BitVec.toNat_ofInt];omega
 have h2:(BitVec.ofInt 8 (127:Int)).toNat=127:=rfl
 show IntKind.u8.wrap ((BitVec.ofInt 8 (x.toNat:Int)&&&BitVec.ofInt 8 (127:Int)).toNat:Int)=_
 rw [BitVec.toNat_and,h1,h2,IntKind.wrap_u8,show (127:Nat)=2^7-1 from rfl,Nat.and_two_pow_sub_one_eq_mod];omega
theorem zFT (k x j:Nat) (hk:k<128^j) (hx:x%128*128^j<18446744073709551616) (hs:k+x%128*128^j<18446744073709551616):
 bits .or .u64 (k:Int) (IntKind.u64.wrap ((x:Int)%128*2^(7*j)))=((k+x%128*128^j:Nat):Int):=by
 have hp:(128:Nat)^j=2^(7*j):=by rw [Nat.pow_mul]
 have e1:(x:Int)%128*2^(7*j)=((x%128*128^j:Nat):Int):=by rw [hp];push_cast;rfl
 rw [e1,IntKind.wrap_u64,show ((x%128*128^j:Nat):Int)%18446744073709551616=((x%128*128^j:Nat):Int) by omega,u64_or_nat k _ (by omega) hx]
 congr 1
 rw [hp] at hk⊢;rw [Nat.or_comm,Nat.mul_comm (x%128),←Nat.two_pow_add_eq_or_of_lt hk,Nat.add_comm]
theorem zHP:(128:Nat)^9=9223372036854775808:=by decide
theorem r9 {k x j:Nat} (hk:k<128^j) (hj:j≤9) (h9:j=9→x≤1):x%128*128^j<18446744073709551616∧k+x%128*128^j<18446744073709551616∧k+x%128*128^j<128^(j+1):=by
 have hp:(128:Nat)^(j+1)=128^j*128:=Nat.pow_succ ..;have hpos:0<128^j:=Nat.pow_pos (by omega)
 have h1:k+x%128*128^j<128^(j+1):=by
  rw [hp,Nat.mul_comm (128^j) 128]
  have:x%128*128^j≤127*128^j:=Nat.mul_le_mul_right _ (by omega)
  omega
 refine ⟨?_,?_,h1⟩
 ·rcases Nat.lt_or_ge j 9 with h|h
  ·have:128^(j+1)≤128^9:=Nat.pow_le_pow_right (by omega) (by omega)
   rw [zHP] at this;omega
  ·obtain rfl:j=9:=by omega
   have:=h9 rfl
   have:x%128*128^9≤1*128^9:=Nat.mul_le_mul_right _ (by omega)
   rw [zHP] at this⊢;omega
 ·rcases Nat.lt_or_ge j 9 with h|h
  ·have:128^(j+1)≤128^9:=Nat.pow_le_pow_right (by omega) (by omega)
   rw [zHP] at this;omega
  ·obtain rfl:j=9:=by omega
   have:=h9 rfl
   have:x%128*128^9≤1*128^9:=Nat.mul_le_mul_right _ (by omega)
   rw [zHP] at this hk⊢;omega
theorem uB {a a' b b' c c':Value} (h1:a=a') (h2:b=b') (h3:c=c'):Ending.returned (.tuple #[a,b,c])= .returned (.tuple #[a',b',c']):=by rw [h1,h2,h3]
theorem lT (v:Value) (l:List UInt8) (at_:Int) (w:World) (hv:RdB w v l):Calls Tryz.prog 180 #[v,.int .i64 at_] w (jE l at_ w):=by
 obtain ⟨A,c,rfl,hm⟩:=hv.form
 by_cases h1:at_<0
 ·have hV:Hid (ruV l at_=(0,0,1)):=by show _=_;unfold ruV;rw [if_pos (.inl h1)]
  go_enter Tryz.func180,Tryz.ntmps180;go_wp2_with fail;go_ret3;unfold jE;rw [hV.out];exact ⟨rfl,rfl⟩
 by_cases h2:(l.length:Int)<at_
 ·have hV:Hid (ruV l at_=(0,0,1)):=by show _=_;unfold ruV;rw [if_pos (.inr h2)]
  go_enter Tryz.func180,Tryz.ntmps180;go_wp2_with fail;go_ret3;unfold jE;rw [hV.out];exact ⟨rfl,rfl⟩
 obtain ⟨a,rfl⟩:=Int.eq_ofNat_of_zero_le (show 0≤at_ by omega)
 have hV:Hid (∀N K C,ruF 0 0 (l.drop a)=(N,K,C)→ruV l a=(N,bif C==0 then (a:Int)+K else 0,C)):=Lib.hid fun N K C h=>by
  unfold ruV;rw [if_neg (by omega),Int.toNat_natCast,h]
 have hal:a≤l.length:=by omega
 obtain ⟨Ac,cc,q1,hr⟩:=hv.run_l a hal;have q1:=q1 w;have hrl:Hid ((l.drop a).length=l.length-a):=Lib.hid (by simp);generalize l.drop a=r at*
 have ham:(a:Int)+((l.length-a:Nat):Int)≤9223372036854775807:=by omega
 generalize l.length-a=m at*;go_enter Tryz.func180,Tryz.ntmps180;go_wp2_with fail;clear q1
 go_loopw [7,22] (fun n i wr=>∃(j k:Nat),i= .int .i64 (j:Int)∧n= .int .u64 (k:Int)∧j≤m∧j≤9∧Hid (k<128^j)∧Hid (ruF 0 0 r=ruF j k (r.drop j))∧w=wr)
  (fun _ i _=>m-(intOf i).toNat)
 case atStart=>exact ⟨0,0,rfl,rfl,by omega,by omega,Lib.hid (by simp),Lib.hid (by simp),rfl⟩
 case round=>
  obtain ⟨j,k,rfl,rfl,hj,hj9,HK,HE,rfl⟩:=hrel
  by_cases hlt:j<m
  ·have hjl:j<r.length:=by rw [hrl.out];exact hlt
   obtain ⟨ad,rfl,hc⟩:=hr.at_ hjl;have hd:=List.drop_eq_getElem_cons hjl;have hxb:r[j].toNat<256:=r[j].toNat_lt;have hand:=zIY r[j];generalize r[j]=x at hc hd hxb hand;have HE2:=Lib.hid (HE.out.trans (by rw [hd]));clear hd HE
   by_cases hA:j=9∧1<x.toNat
   ·have HE3:=Lib.hid (hV.out _ _ _ (HE2.out.trans (zBH hA)))
    have e9:((j:Int)==9)=true:=by simp;omega
    have e1:(1:Int)<(x.toNat:Int):=by omega
    clear hA;go_wp2_with fail;go_ret3;unfold jE;rw [HE3.out];exact ⟨rfl,rfl⟩
   ·have HA:=Lib.hid hA;have hst:=r9 (k:=k) (x:=x.toNat) HK.out hj9 (fun h=>by omega);obtain ⟨s1,s2,s3⟩:=hst;have hor:=zFT k x.toNat j HK.out s1 s2;obtain ⟨K',hK'⟩:∃K',K'=k+x.toNat%128*128^j:=⟨_,rfl⟩;rw [←hK'] at hor s3;have HK':=Lib.hid hK';have S3:=Lib.hid s3;clear hK' s3 s1 s2 hA;rcases (by omega:(x.toNat=0∧0<j)∨(¬(x.toNat=0∧0<j)∧x.toNat<128)∨¬x.toNat<128) with hB|⟨hB,hx⟩|hx
    ·have HE3:=Lib.hid (hV.out _ _ _ (HE2.out.trans (oM HA.out hB)));obtain ⟨hB1,hB2⟩:=hB
     have ex:((x.toNat:Int)==0)=true:=by simp;omega
     have hx1:¬(1:Int)<(x.toNat:Int):=by omega
     clear hB1;rcases (by omega:j≠9∨j=9) with h9|h9
     ·have e9:((j:Int)==9)=false:=by simp;omega
      go_wp2_with fail;go_ret3;unfold jE;rw [HE3.out];exact ⟨rfl,rfl⟩
     ·have e9:((j:Int)==9)=true:=by simp;omega
      clear h9;go_wp2_with fail;go_ret3;unfold jE;rw [HE3.out];exact ⟨rfl,rfl⟩
    ·have HE3:=Lib.hid (hV.out _ _ _ (HE2.out.trans ((zA5 HA.out hB hx).trans (by rw [←HK'.out]))))
     have hbool:((x.toNat:Int)==0)=true∧¬(0:Int)<(j:Int)∨((x.toNat:Int)==0)=false:=by
      by_cases h0:x.toNat=0
      ·exact .inl ⟨by simp;omega,by omega⟩
      ·exact .inr (by simp;omega)
     have h9c:((j:Int)==9)=false∨((j:Int)==9)=true∧¬(1:Int)<(x.toNat:Int):=by
      by_cases h9:j=9
      ·exact .inr ⟨by simp;omega,by have:=HA.out;omega⟩
      ·exact .inl (by simp;omega)
     clear hB;rcases hbool with ⟨ex,ej⟩|ex<;>rcases h9c with e9|⟨e9,e1⟩
     ·go_wp2_with fail;go_ret3;unfold jE;rw [HE3.out];exact ⟨uB rfl (congrArg (Value.int .i64) (by show (a:Int)+(j:Int)+1=(a:Int)+((j+1:Nat):Int);omega)) rfl,rfl⟩
     ·go_wp2_with fail;go_ret3;unfold jE;rw [HE3.out];exact ⟨uB rfl (congrArg (Value.int .i64) (by show (a:Int)+(j:Int)+1=(a:Int)+((j+1:Nat):Int);omega)) rfl,rfl⟩
     ·go_wp2_with fail;go_ret3;unfold jE;rw [HE3.out];exact ⟨uB rfl (congrArg (Value.int .i64) (by show (a:Int)+(j:Int)+1=(a:Int)+((j+1:Nat):Int);omega)) rfl,rfl⟩
     ·go_wp2_with fail;go_ret3;unfold jE;rw [HE3.out];exact ⟨uB rfl (congrArg (Value.int .i64) (by show (a:Int)+(j:Int)+1=(a:Int)+((j+1:Nat):Int);omega)) rfl,rfl⟩
    ·have ex:((x.toNat:Int)==0)=false:=by simp;omega
     have h9:j≠9:=fun e=>by have:=HA.out;omega
     have e9:((j:Int)==9)=false:=by simp;omega
     have HE3:=Lib.hid (HE2.out.trans ((oN HA.out hx).trans (by rw [←HK'.out])));go_wp2_with fail;exact ⟨⟨j+1,K',by go_num,rfl,by omega,by omega,S3,HE3,trivial⟩,by simp [intOf];omega⟩
  ·obtain rfl:j=m:=by omega
   have HE3:=Lib.hid (hV.out _ _ _ (HE.out.trans (by rw [List.drop_of_length_le (by rw [hrl.out];omega)])));go_wp2_with fail;go_ret3;unfold jE;rw [HE3.out];exact ⟨rfl,rfl⟩
def nuK (d:List UInt8) (at_:Nat) (bad:Bool):Nat×Nat×Bool:=
 if bad=true∨(ruF 0 0 (d.drop at_)).2.2≠0 then (0,at_,true) else ((ruF 0 0 (d.drop at_)).1,at_+(ruF 0 0 (d.drop at_)).2.1,false)
def paK (d:List UInt8) (at_:Nat) (bad:Bool) (n:Nat):List UInt8×Nat×Bool:=
 if bad=true∨d.length-at_<n then ([],at_,true) else ((d.drop at_).take n,at_+n,false)
def smK (d:List UInt8) (at_:Nat) (bad:Bool):Nat×Nat×Bool:=
 if 2147483648<(nuK d at_ bad).1 then (0,(nuK d at_ bad).2.1,true) else nuK d at_ bad
theorem fR {d:List UInt8} {at_:Nat} (bad:Bool) (h:at_≤d.length):(nuK d at_ bad).2.1≤d.length:=by
 unfold nuK
 split
 ·exact h
 ·rename_i hn
  rcases hr:ruF 0 0 (d.drop at_) with ⟨N,K,E⟩;rw [hr] at hn;simp only [not_or,Decidable.not_not] at hn;obtain ⟨_,hE⟩:=hn;subst hE;obtain ⟨_,h2,_⟩:=lW (d.drop at_) 0 0 N K (by omega) hr;rw [List.length_drop] at h2;simp only [];omega
theorem eV {d:List UInt8} {at_:Nat} (bad:Bool) (n:Nat) (h:at_≤d.length):(paK d at_ bad n).2.1≤d.length:=by
 unfold paK
 split
 ·exact h
 ·rename_i hn;simp only [not_or] at hn;simp only;omega
theorem zAC {d:List UInt8} {at_:Nat} (bad:Bool) (h:at_≤d.length):(smK d at_ bad).2.1≤d.length:=by
 unfold smK
 split
 ·exact fR bad h
 ·exact fR bad h
theorem tO (d:List UInt8) (at_:Nat) (bad:Bool):(smK d at_ bad).1≤2147483648:=by
 unfold smK
 split
 ·simp
 ·omega
theorem zA2 (d:List UInt8) (at_:Nat) (bad:Bool) (n:Nat):(paK d at_ bad n).1.length≤d.length:=by
 unfold paK
 split
 ·simp
 ·rw [List.length_take,List.length_drop];omega
theorem zIJ (d:List UInt8) (at_:Nat) (ha:at_≤d.length) (N K:Nat) (E:Int) (hr:ruF 0 0 (d.drop at_)=(N,K,E)) (v:Value) (w:World) (hv:RdB w v d):
 Calls Tryz.prog 180 #[v,.int .i64 (at_:Int)] w fun e w'=>e= .returned (.tuple #[.int .u64 (N:Int),.int .i64 (bif E==0 then (at_:Int)+K else 0),.int .i64 E])∧w'=w:=
 (lT v d at_ w hv).mono fun e w' h=>by
  unfold jE ruV at h;rw [if_neg (by omega),Int.toNat_natCast,hr] at h;exact ⟨h.1,h.2.symm⟩
def zA6 (w:World) (r:Nat) (v:Value) (at_:Nat) (bad:Bool) (w':World):Prop:=OBlk w' r 155 [v,.int .i64 (at_:Int),.bool bad]∧Turn (fun g=>g=r) w w'
theorem pS (d:List UInt8) (_hd:d.length≤65536) (at_:Nat) (ha:at_≤d.length) (bad:Bool) (r:Nat) (v:Value) (w:World) (hv:RdB w v d) (ho:OBlk w r 155 [v,.int .i64 (at_:Int),.bool bad]):
 Calls Tryz.prog 174 #[.pointer (some ⟨r,0,none⟩)] w fun e w'=>e= .returned (.int .u64 ((nuK d at_ bad).1:Nat))∧zA6 w r v (nuK d at_ bad).2.1 (nuK d at_ bad).2.2 w':=by
 obtain ⟨A,c,rfl,hm⟩:=hv.form;rcases hr:ruF 0 0 (d.drop at_) with ⟨N,K,E⟩;have hru:=fun n=>zIJ d at_ ha N K E hr (.slice A d.length c) (w.drewN n) hv;have c0:w.cell? ⟨r,0,none⟩=some (.slice A d.length c):=ho.cell' (j:=0) rfl;have c1:w.cell? ⟨r,1,none⟩=some (.int .i64 (at_:Int)):=ho.cell' (j:=1) rfl;have c2:w.cell? ⟨r,2,none⟩=some (.bool bad):=ho.cell' (j:=2) rfl;have f1:=ho.frozen (j:=1) (by simp);have f2:=ho.frozen (j:=2) (by simp);have HRU:=Lib.hid hru;have HR:=Lib.hid hr;clear hru hr
 cases bad with
 |true=>
  have HN:Hid (nuK d at_ true=(0,at_,true)):=by show _=_;unfold nuK;rw [if_pos (.inl rfl)]
  generalize (bif E==0 then (at_:Int)+K else 0)=T at*;go_enter Tryz.func174,Tryz.ntmps174;go_upto_region 1 with (fail);go_quiet ((go_at_call 180;exact Calls.quiet_of_same (HRU.out _)));go_wp2_with fail;go_ret;rw [HN.out];exact ⟨rfl,by have:=ho.drew.set 2 (.bool true);exact this,((Turn.refl (fun g=>g=r) w).drewN _).setCell _ _ (.inl rfl)⟩
 |false=>
  by_cases hE:E=0
  ·subst hE
   have HN:Hid (nuK d at_ false=(N,at_+K,false)):=by show _=_;unfold nuK;rw [HR.out,if_neg (by simp)]
   go_enter Tryz.func174,Tryz.ntmps174;go_upto_region 1 with (fail);go_quiet ((go_at_call 180;exact Calls.quiet_of_same (HRU.out _)));go_wp2_with fail;go_ret;rw [HN.out];exact ⟨rfl,by have:=ho.drew.set 1 (.int .i64 ((at_:Int)+(K:Int)));exact this,((Turn.refl (fun g=>g=r) w).drewN _).setCell _ _ (.inl rfl)⟩
  ·have HN:Hid (nuK d at_ false=(0,at_,true)):=by show _=_;unfold nuK;rw [HR.out,if_pos (.inr hE)]
   have hnb:(E !=0)=true:=by simp only [bne,beq_eq_false_iff_ne.2 hE];rfl
   generalize (bif E==0 then (at_:Int)+K else 0)=T at*;go_enter Tryz.func174,Tryz.ntmps174;go_upto_region 1 with (fail);go_quiet ((go_at_call 180;exact Calls.quiet_of_same (HRU.out _)));go_wp2_with fail;go_ret;rw [HN.out];exact ⟨rfl,by have:=ho.drew.set 2 (.bool true);exact this,((Turn.refl (fun g=>g=r) w).drewN _).setCell _ _ (.inl rfl)⟩
theorem zDM (W:World) (d:List UInt8) (hd:d.length≤65536) (at_:Nat) (ha:at_≤d.length) (bad:Bool) (n:Nat) (r:Nat) (v:Value) (w:World) (hv:RdB W v d) (ho:OBlk w r 155 [v,.int .i64 (at_:Int),.bool bad]):
 Calls Tryz.prog 173 #[.pointer (some ⟨r,0,none⟩),.int .u64 (n:Int)] w fun e w'=>∃A c,e= .returned (.slice A (paK d at_ bad n).1.length c)∧RdB W (.slice A (paK d at_ bad n).1.length c) (paK d at_ bad n).1∧zA6 w r v (paK d at_ bad n).2.1 (paK d at_ bad n).2.2 w':=by
 obtain ⟨A,c,rfl,hm⟩:=hv.form;have c0:w.cell? ⟨r,0,none⟩=some (.slice A d.length c):=ho.cell' (j:=0) rfl;have c1:w.cell? ⟨r,1,none⟩=some (.int .i64 (at_:Int)):=ho.cell' (j:=1) rfl;have c2:w.cell? ⟨r,2,none⟩=some (.bool bad):=ho.cell' (j:=2) rfl;have f1:=ho.frozen (j:=1) (by simp);have f2:=ho.frozen (j:=2) (by simp)
 cases bad with
 |true=>
  have HN:Hid (paK d at_ true n=([],at_,true)):=by show _=_;unfold paK;rw [if_pos (.inl rfl)]
  rw [HN.out];go_enter Tryz.func173,Tryz.ntmps173;go_upto_region 1 with (fail);go_quiet (fail);go_wp2_with fail;go_ret;exact ⟨_,_,rfl,RdB.nil,by have:=ho.drew.set 2 (.bool true);exact this,((Turn.refl (fun g=>g=r) w).drewN _).setCell _ _ (.inl rfl)⟩
 |false=>
  have e1:IntKind.i64.wrap ((d.length:Int)-(at_:Int))=(d.length:Int)-(at_:Int):=by rw [IntKind.wrap_i64];omega
  have e2:IntKind.u64.wrap ((d.length:Int)-(at_:Int))=(d.length:Int)-(at_:Int):=by rw [IntKind.wrap_u64];omega
  by_cases h:d.length-at_<n
  ·have HN:Hid (paK d at_ false n=([],at_,true)):=by show _=_;unfold paK;rw [if_pos (.inr h)]
   have i1:(d.length:Int)-(at_:Int)<(n:Int):=by omega
   rw [HN.out];go_enter Tryz.func173,Tryz.ntmps173;go_upto_region 1 with (fail);go_quiet (fail);go_wp2_with fail;go_ret;exact ⟨_,_,rfl,RdB.nil,by have:=ho.drew.set 2 (.bool true);exact this,((Turn.refl (fun g=>g=r) w).drewN _).setCell _ _ (.inl rfl)⟩
  ·have HN:Hid (paK d at_ false n=((d.drop at_).take n,at_+n,false)):=by show _=_;unfold paK;rw [if_neg (by simp;omega)]
   have i1:¬(d.length:Int)-(at_:Int)<(n:Int):=by omega
   have e3:IntKind.i64.wrap (n:Int)=(n:Int):=by rw [IntKind.wrap_i64];omega
   have e4:IntKind.i64.wrap ((at_:Int)+(n:Int))=(at_:Int)+(n:Int):=by rw [IntKind.wrap_i64];omega
   have e5:IntKind.i64.wrap ((at_:Int)+(n:Int)-(n:Int))=(at_:Int):=by rw [IntKind.wrap_i64];omega
   have e6:(at_:Int)+(n:Int)-(n:Int)=(at_:Int):=by omega
   obtain ⟨A2,c3,hrun,hrd⟩:=hv.run_lh at_ (at_+n) (by omega) (by omega)
   have hl:at_+n-at_=n:=by omega
   have hld:((d.take (at_+n)).drop at_)=(d.drop at_).take n:=by rw [List.drop_take];congr 1
   have hll:((d.drop at_).take n).length=n:=by rw [List.length_take,List.length_drop];omega
   rw [hl] at hrun hrd;rw [hld] at hrd
   have hrun':∀w',(Instr.slice 41 (.slice A d.length c) (some (.int .i64 (at_:Int))) (some (.int .i64 ((at_:Int)+(n:Int)))) none).run Tryz.prog w'= .ok (.slice A2 n c3) w':=fun w'=>by have:=hrun w';rw [Int.natCast_add] at this;exact this
   rw [HN.out];simp only [hll];have HRD:=Lib.hid hrd;clear hl hld hll hrun hrd;go_enter Tryz.func173,Tryz.ntmps173;go_upto_region 1 with (fail);go_quiet (fail);go_upto_region 5 with (fail);have ho2:OBlk ((w.drewN nq).setCell ⟨r,1,none⟩ (.int .i64 ((at_:Int)+(n:Int)))) r 155 [.slice A d.length c,.int .i64 ((at_:Int)+(n:Int)),.bool false]:=ho.drew.set 1 (.int .i64 ((at_:Int)+(n:Int)));have hT:Turn (fun g=>g=r) w ((w.drewN nq).setCell ⟨r,1,none⟩ (.int .i64 ((at_:Int)+(n:Int)))):=((Turn.refl (fun g=>g=r) w).drewN _).setCell _ _ (.inl rfl);clear c0 c1 c2 f1 f2;generalize (w.drewN nq).setCell ⟨r,1,none⟩ (.int .i64 ((at_:Int)+(n:Int)))=w2 at*;have d0:w2.cell? ⟨r,0,none⟩=some (.slice A d.length c):=ho2.cell' (j:=0) rfl;have d1:w2.cell? ⟨r,1,none⟩=some (.int .i64 ((at_:Int)+(n:Int))):=ho2.cell' (j:=1) rfl
   go_region
   go_wp2_with fail;go_ret;exact ⟨_,_,rfl,HRD.out,by have:=ho2.drew;exact this,hT.drew⟩
theorem eS (d:List UInt8) (hd:d.length≤65536) (at_:Nat) (ha:at_≤d.length) (bad:Bool) (r:Nat) (v:Value) (w:World) (hv:RdB w v d) (ho:OBlk w r 155 [v,.int .i64 (at_:Int),.bool bad]):
 Calls Tryz.prog 175 #[.pointer (some ⟨r,0,none⟩)] w fun e w'=>e= .returned (.int .i64 ((smK d at_ bad).1:Nat))∧zA6 w r v (smK d at_ bad).2.1 (smK d at_ bad).2.2 w':=by
 have hn:=pS d hd at_ ha bad r v w hv ho;unfold smK;generalize nuK d at_ bad=z at*;obtain ⟨n,t,b⟩:=z;simp only at hn⊢
 by_cases h:2147483648<n
 ·have i1:(2147483648:Int)<(n:Int):=by omega
  rw [if_pos h];clear ho;go_enter Tryz.func175,Tryz.ntmps175
  go_upto_region 2 with (first
   |(go_at_call 174;(with_reducible refine hn.mono ?_);rintro e w2 ⟨rfl,ho,hT⟩)
   |fail)
  have c2:w2.cell? ⟨r,2,none⟩=some (.bool b):=ho.cell' (j:=2) rfl;have f2:=ho.frozen (j:=2) (by simp);go_wp2_with fail;go_ret;exact ⟨rfl,by have:=ho.set 2 (.bool true);exact this,hT.setCell _ _ (.inl rfl)⟩
 ·have i1:¬(2147483648:Int)<(n:Int):=by omega
  have e3:IntKind.i64.wrap (n:Int)=(n:Int):=by rw [IntKind.wrap_i64];omega
  rw [if_neg h];clear ho;go_enter Tryz.func175,Tryz.ntmps175
  go_wp2_with (first
   |(go_at_call 174;(with_reducible refine hn.mono ?_);rintro e w2 ⟨rfl,ho,hT⟩)
   |fail)
  go_ret;exact ⟨rfl,ho,hT⟩
def gQ (r:Nat) (v:Value) (at_:Nat) (bad:Bool):Ent:=z7 r 155 [v,.int .i64 (at_:Int),.bool bad]
theorem Sep.rdr {w0 w w':World} {L:List Ent} {r:Nat} {v:Value} {at_ at':Nat} {bad bad':Bool} (h:Sep w0 w (gQ r v at_ bad::L)) (hr:zA6 w r v at' bad' w'):Sep w0 w' (gQ r v at' bad'::L):=
 h.upd hr.2 hr.1 (fun g hg=>⟨.inl hg,by have h1:=h.lt g hg;have h2:=hr.2.size;omega⟩)
theorem pG {w0 w:World} {L:List Ent} {r:Nat} {v:Value} {d:List UInt8} {at_:Nat} {bad:Bool} (h:Sep w0 w (gQ r v at_ bad::L)) (ho:yK w0∈L) (hv:RdB w0 v d) (hd:d.length≤65536) (ha:at_≤d.length):
 Calls Tryz.prog 174 #[.pointer (some ⟨r,0,none⟩)] w fun e w'=>e= .returned (.int .u64 ((nuK d at_ bad).1:Nat))∧Sep w0 w' (gQ r v (nuK d at_ bad).2.1 (nuK d at_ bad).2.2::L):=
 (pS d hd at_ ha bad r v w (h.rd (List.mem_cons_of_mem _ ho) hv) h.head).mono fun _ _ ⟨h1,h2⟩=>⟨h1,h.rdr h2⟩
theorem nZ {w0 w:World} {L:List Ent} {r:Nat} {v:Value} {d:List UInt8} {at_:Nat} {bad:Bool} (h:Sep w0 w (gQ r v at_ bad::L)) (hv:RdB w0 v d) (hd:d.length≤65536) (ha:at_≤d.length) (n:Nat):
 Calls Tryz.prog 173 #[.pointer (some ⟨r,0,none⟩),.int .u64 (n:Int)] w fun e w'=>∃A c,e= .returned (.slice A (paK d at_ bad n).1.length c)∧RdB w0 (.slice A (paK d at_ bad n).1.length c) (paK d at_ bad n).1∧Sep w0 w' (gQ r v (paK d at_ bad n).2.1 (paK d at_ bad n).2.2::L):=
 (zDM w0 d hd at_ ha bad n r v w hv h.head).mono fun _ _ ⟨A,c,h1,h2,h3⟩=>⟨A,c,h1,h2,h.rdr h3⟩
theorem sW {w0 w:World} {L:List Ent} {r:Nat} {v:Value} {d:List UInt8} {at_:Nat} {bad:Bool} (h:Sep w0 w (gQ r v at_ bad::L)) (ho:yK w0∈L) (hv:RdB w0 v d) (hd:d.length≤65536) (ha:at_≤d.length):
 Calls Tryz.prog 175 #[.pointer (some ⟨r,0,none⟩)] w fun e w'=>e= .returned (.int .i64 ((smK d at_ bad).1:Nat))∧Sep w0 w' (gQ r v (smK d at_ bad).2.1 (smK d at_ bad).2.2::L):=
 (eS d hd at_ ha bad r v w (h.rd (List.mem_cons_of_mem _ ho) hv) h.head).mono fun _ _ ⟨h1,h2⟩=>⟨h1,h.rdr h2⟩
end Go.Proofs.YtfcnkpofcekmgaaGreat
namespace Go.Proofs.YtfcnkpofcekmgaaGreat
def gW (d:List UInt8) (key:List UInt8) (kb:Int) (t:Nat) (b:Bool):PC×Nat×Bool:=
 if kb=1 then
  (⟨key,kb,(paK d (nuK d t b).2.1 (nuK d t b).2.2 (nuK d t b).1).1,0,0⟩,(paK d (nuK d t b).2.1 (nuK d t b).2.2 (nuK d t b).1).2.1,(paK d (nuK d t b).2.1 (nuK d t b).2.2 (nuK d t b).1).2.2)
 else
  (⟨key,kb,[],((smK d t b).1:Nat),((smK d (smK d t b).2.1 (smK d t b).2.2).1:Nat)⟩,(smK d (smK d t b).2.1 (smK d t b).2.2).2.1,(smK d (smK d t b).2.1 (smK d t b).2.2).2.2)
def kD (d:List UInt8) (at_:Nat):List UInt8×Nat×Bool:=paK d at_ false 1
def qG (d:List UInt8) (t:Nat) (b:Bool):List UInt8×Nat×Bool:=paK d (nuK d t b).2.1 (nuK d t b).2.2 (nuK d t b).1
def fI (d:List UInt8) (kind:Int) (i:Nat) (pre:List UInt8) (at_:Nat):PC×Nat×Bool:=
 gW d ((if kind=3∧i=0 then [] else pre)++(qG d (kD d at_).2.1 (kD d at_).2.2).1) (((kD d at_).1.headD 0).toNat:Nat) (qG d (kD d at_).2.1 (kD d at_).2.2).2.1 (qG d (kD d at_).2.1 (kD d at_).2.2).2.2
theorem iF (d:List UInt8) (t:Nat):nuK d t true=(0,t,true):=by unfold nuK;rw [if_pos (.inl rfl)]
theorem rD (d:List UInt8) (t n:Nat):paK d t true n=([],t,true):=by unfold paK;rw [if_pos (.inl rfl)]
theorem zIF {d:List UInt8} {t n:Nat} (h:t+n≤d.length):paK d t false n=((d.drop t).take n,t+n,false):=by unfold paK;rw [if_neg (by simp;omega)]
theorem zJR {d:List UInt8} {t n:Nat} (ht:t≤d.length) (h:d.length<t+n):paK d t false n=([],t,true):=by unfold paK;rw [if_pos (.inr (by omega))]
theorem lQ (d:List UInt8) (t:Nat):smK d t true=(0,t,true):=by unfold smK;rw [iF,if_neg (by simp)]
theorem nW (d key:List UInt8) (kb:Int) (t:Nat):(gW d key kb t true).2.2=true:=by
 unfold gW
 split
 ·simp only [iF,rD]
 ·simp only [lQ]
theorem zEX (d key:List UInt8) (kb:Int) (t:Nat) (_ht:t≤d.length) (n k:Nat) (_hr:nuK d t false=(n,k,false)) (hn:n≤2147483648):
 readK.readN d key kb n k=if (smK d k false).2.2=true then none else some (⟨key,kb,[],(n:Int),((smK d k false).1:Nat)⟩,(smK d k false).2.1):=by
 unfold readK.readN;rw [if_neg (by omega)]
 by_cases he:(ruF 0 0 (d.drop k)).2.2≠0
 ·have e:nuK d k false=(0,k,true):=by unfold nuK;rw [if_pos (.inr he)]
  have e2:smK d k false=(0,k,true):=by unfold smK;rw [e,if_neg (by simp)]
  rw [if_pos he,e2];rfl
 ·have e:nuK d k false=((ruF 0 0 (d.drop k)).1,k+(ruF 0 0 (d.drop k)).2.1,false):=by unfold nuK;rw [if_neg (by simpa using he)]
  rw [if_neg he]
  by_cases h2:2147483648<(ruF 0 0 (d.drop k)).1
  ·have e2:smK d k false=(0,k+(ruF 0 0 (d.drop k)).2.1,true):=by unfold smK;rw [e,if_pos h2]
   rw [if_pos h2,e2];rfl
  ·have e2:smK d k false=((ruF 0 0 (d.drop k)).1,k+(ruF 0 0 (d.drop k)).2.1,false):=by unfold smK;rw [e,if_neg h2]
   rw [if_neg h2,e2];rfl
theorem eU (d key:List UInt8) (kb:Int) (t:Nat) (ht:t≤d.length):
 readK.readT d key kb t=if (gW d key kb t false).2.2=true then none else some ((gW d key kb t false).1,(gW d key kb t false).2.1):=by
 unfold readK.readT
 by_cases he:(ruF 0 0 (d.drop t)).2.2≠0
 ·have e:nuK d t false=(0,t,true):=by unfold nuK;rw [if_pos (.inr he)]
  have e2:smK d t false=(0,t,true):=by unfold smK;rw [e,if_neg (by simp)]
  rw [if_pos he,if_pos];unfold gW
  split
  ·simp only [e,rD]
  ·simp only [e2,lQ]
 ·have e:nuK d t false=((ruF 0 0 (d.drop t)).1,t+(ruF 0 0 (d.drop t)).2.1,false):=by unfold nuK;rw [if_neg (by simpa using he)]
  have hle:=fR (d:=d) (at_:=t) false ht;rw [e] at hle;simp only at hle;rw [if_neg he]
  by_cases hk:kb=1
  ·rw [if_pos hk];unfold gW;rw [if_pos hk,e];simp only
   by_cases h2:d.length<t+(ruF 0 0 (d.drop t)).2.1+(ruF 0 0 (d.drop t)).1
   ·have e3:paK d (t+(ruF 0 0 (d.drop t)).2.1) false (ruF 0 0 (d.drop t)).1=([],t+(ruF 0 0 (d.drop t)).2.1,true):=by unfold paK;rw [if_pos (.inr (by omega))]
    rw [if_pos h2,e3,if_pos rfl]
   ·have e3:paK d (t+(ruF 0 0 (d.drop t)).2.1) false (ruF 0 0 (d.drop t)).1=((d.drop (t+(ruF 0 0 (d.drop t)).2.1)).take (ruF 0 0 (d.drop t)).1,t+(ruF 0 0 (d.drop t)).2.1+(ruF 0 0 (d.drop t)).1,false):=by unfold paK;rw [if_neg (by simp;omega)]
    rw [if_neg h2,e3,if_neg (by simp)]
  ·rw [if_neg hk];unfold gW;rw [if_neg hk]
   by_cases h2:2147483648<(ruF 0 0 (d.drop t)).1
   ·have e2:smK d t false=(0,t+(ruF 0 0 (d.drop t)).2.1,true):=by unfold smK;rw [e,if_pos h2]
    unfold readK.readN;rw [if_pos h2,e2,if_pos (by simp only [lQ])]
   ·have e2:smK d t false=((ruF 0 0 (d.drop t)).1,t+(ruF 0 0 (d.drop t)).2.1,false):=by unfold smK;rw [e,if_neg h2]
    rw [zEX d key kb t ht _ _ e (by omega),e2]
theorem eN (d:List UInt8) (kind:Int) (i:Nat) (pre:List UInt8) (at_:Nat) (ha:at_≤d.length):
 readK d kind i pre at_=if (fI d kind i pre at_).2.2=true then none else some ((fI d kind i pre at_).1,(fI d kind i pre at_).2.1):=by
 unfold readK fI
 by_cases h0:d.length≤at_
 ·have e:kD d at_=([],at_,true):=by unfold kD paK;rw [if_pos (.inr (by omega))]
  have e2:qG d at_ true=([],at_,true):=by unfold qG;rw [iF,rD]
  rw [if_pos h0,e];simp only;rw [e2,if_pos (nW _ _ _ _)]
 ·have e:kD d at_=((d.drop at_).take 1,at_+1,false):=by unfold kD paK;rw [if_neg (by simp;omega)]
  have ek:(((d.drop at_).take 1).headD 0)=d.getD at_ 0:=by
   have hx:d[at_]? =(d.drop at_)[0]?:=by simp
   rw [List.getD,hx]
   cases d.drop at_<;>rfl
  rw [if_neg h0,e];simp only;rw [ek]
  by_cases he:(ruF 0 0 (d.drop (at_+1))).2.2≠0
  ·have e1:nuK d (at_+1) false=(0,at_+1,true):=by unfold nuK;rw [if_pos (.inr he)]
   have e2:qG d (at_+1) false=([],at_+1,true):=by unfold qG;rw [e1,rD]
   rw [if_pos he,e2,if_pos (nW _ _ _ _)]
  ·have e1:nuK d (at_+1) false=((ruF 0 0 (d.drop (at_+1))).1,at_+1+(ruF 0 0 (d.drop (at_+1))).2.1,false):=by unfold nuK;rw [if_neg (by simpa using he)]
   have hle:=fR (d:=d) (at_:=at_+1) false (by omega);rw [e1] at hle;simp only at hle;rw [if_neg he]
   by_cases h2:d.length<at_+1+(ruF 0 0 (d.drop (at_+1))).2.1+(ruF 0 0 (d.drop (at_+1))).1
   ·have e2:qG d (at_+1) false=([],at_+1+(ruF 0 0 (d.drop (at_+1))).2.1,true):=by unfold qG;rw [e1];exact zJR hle (by simp only;omega)
    rw [if_pos h2,e2,if_pos (nW _ _ _ _)]
   ·have e2:qG d (at_+1) false=((d.drop (at_+1+(ruF 0 0 (d.drop (at_+1))).2.1)).take (ruF 0 0 (d.drop (at_+1))).1,at_+1+(ruF 0 0 (d.drop (at_+1))).2.1+(ruF 0 0 (d.drop (at_+1))).1,false):=by unfold qG;rw [e1];exact zIF (by simp only;omega)
    rw [if_neg h2,e2];exact eU _ _ _ _ (by omega)
theorem zFV {d key:List UInt8} {kb:Int} {t:Nat} (b:Bool) (h:t≤d.length):(gW d key kb t b).2.1≤d.length:=by
 unfold gW
 split
 ·exact eV _ _ (fR b h)
 ·exact zAC _ (zAC b h)
theorem aS {d:List UInt8} {t:Nat} (b:Bool) (h:t≤d.length):(qG d t b).2.1≤d.length:=eV _ _ (fR b h)
theorem uI {d:List UInt8} {t:Nat} (h:t≤d.length):(kD d t).2.1≤d.length:=eV _ _ h
theorem zE4 {d:List UInt8} (kind:Int) (i:Nat) (pre:List UInt8) {t:Nat} (h:t≤d.length):(fI d kind i pre t).2.1≤d.length:=zFV _ (aS _ (uI h))
end Go.Proofs.YtfcnkpofcekmgaaGreat
