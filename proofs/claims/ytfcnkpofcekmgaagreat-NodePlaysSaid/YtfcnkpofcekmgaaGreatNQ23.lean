/- Texts joined. -/
import Derived.Test.YtfcnkpofcekmgaaGreatNQ22
set_option maxRecDepth 100000
set_option maxHeartbeats 64000000
namespace Go.Proofs.YtfcnkpofcekmgaaGreat
open Go.RowKit
def rkB (r:Nat) (kind:Int) (P:Nat) (u pv:Value) (waste:Nat):Ent:=z7 r 118 [.int .i64 kind,.int .i64 (P:Int),u,pv,.int .i64 (waste:Int)]
def rkE (r:Nat) (kind:Int) (P:Nat) (u pv:Value) (waste:Nat) (l:List CV) (pre:List UInt8):Ent:=lM [rkB r kind P u pv waste,csE u l,zB pv pre]
def RkP (w0 w:World) (L:List Ent) (r P:Nat) (kind:Int) (s:KP):Prop:=
 ∃u pv l,pcs l=s.l∧RngC l∧Sep w0 w (rkE r kind P u pv s.waste l s.pre::L)
structure RKAt (w:World) (r:Nat) (kind:Int) (P:Nat) (u pv:Value) (waste:Nat) (l:List CV) (pre:List UInt8):Prop where
 blk:OBlk w r 118 [.int .i64 kind,.int .i64 (P:Int),u,pv,.int .i64 (waste:Int)]
 rd:RdCs w u l
 pre:OwB w 0 pv pre
section
variable {w0 w w':World} {L:List Ent} {r P waste:Nat} {kind:Int} {u pv:Value} {l:List CV} {pre:List UInt8} {s:KP}
theorem Sep.rkOpen (h:Sep w0 w (rkE r kind P u pv waste l pre::L)):Sep w0 w (rkB r kind P u pv waste::zP 43 5 u l.length (zF l)::zB pv pre::(zG l++L)):=by
 have h1:Sep w0 w (rkB r kind P u pv waste::csE u l::zB pv pre::L):=h.unpack;have h2:Sep w0 w (zP 43 5 u l.length (zF l)::(zG l++(rkB r kind P u pv waste::zB pv pre::L))):=Sep.unpack (D:=zP 43 5 u l.length (zF l)::zG l) h1.sw1;refine h2.perm ?_;exact (List.Perm.cons _ (List.perm_append_comm_assoc (zG l) [rkB r kind P u pv waste,zB pv pre] L)).trans (List.Perm.swap _ _ _)
theorem Sep.rkShut (h:Sep w0 w (rkB r kind P u pv waste::csE u l::zB pv pre::L)):Sep w0 w (rkE r kind P u pv waste l pre::L):=Sep.pack (D:= [_,_,_]) h
theorem Sep.rkClose (h:Sep w0 w (rkB r kind P u pv waste::zP 43 5 u l.length (zF l)::zB pv pre::(zG l++L))):Sep w0 w (rkE r kind P u pv waste l pre::L):=by
 refine Sep.rkShut ((Sep.pack (D:=zP 43 5 u l.length (zF l)::zG l) (L:=rkB r kind P u pv waste::zB pv pre::L) (h.perm ?_)).sw1);exact (List.Perm.swap _ _ _).trans (List.Perm.cons _ (List.perm_append_comm_assoc (zG l) [rkB r kind P u pv waste,zB pv pre] L).symm)
theorem Sep.rkAt (h:Sep w0 w (rkE r kind P u pv waste l pre::L)) (hr:RngC l):RKAt w r kind P u pv waste l pre:=
 ⟨h.rkOpen.head,h.rkOpen.openRd (by simp) (fun E hE=>by simp [hE]) hr,h.rkOpen.tail.tail.head⟩
theorem RkP.below (h:RkP w0 w L r P kind s) (hb:Below w.heap.size w w'):RkP w0 w' L r P kind s:=by
 obtain ⟨u,pv,l,h1,h2,h3⟩:=h;exact ⟨u,pv,l,h1,h2,h3.below hb⟩
theorem RkP.sep (h:RkP w0 w L r P kind s):∃E,Sep w0 w (E::L)∧∀(W:World) (M:List Ent),Sep w0 W (E::M)→RkP w0 W M r P kind s:=by
 obtain ⟨u,pv,l,h1,h2,h3⟩:=h;exact ⟨_,h3,fun _ _ h=>⟨u,pv,l,h1,h2,h⟩⟩
theorem zDQ (h:RKAt w r kind P u pv waste l pre):Calls Tryz.prog 103 #[.pointer (some ⟨r,0,none⟩)] w fun e w'=>e= .returned (.int .i64 (l.length:Int))∧w=w':=by
 obtain ⟨A,c,rfl,hm,hc⟩:=h.rd.slice;obtain ⟨b0,b1,b2,b3,b4⟩:=zC h.blk;go_enter Tryz.func103,Tryz.ntmps103;go_wp2_with fail;go_ret;exact ⟨rfl,rfl⟩
theorem u9 (h:RKAt w r kind P u pv waste l pre):Calls Tryz.prog 101 #[.pointer (some ⟨r,0,none⟩)] w fun e w'=>e= .returned (.int .i64 kind)∧w=w':=by
 obtain ⟨b0,b1,b2,b3,b4⟩:=zC h.blk;go_enter Tryz.func101,Tryz.ntmps101;go_wp2_with fail;go_ret;exact ⟨rfl,rfl⟩
theorem rY {l:List CV} (hb:xT (pcs l)≤100000000000000):∀x∈l,x.c.key.length+x.c.val.length≤100000000000000:=fun x hx=>by
 have:=bO (show x.c∈pcs l from List.mem_map_of_mem hx);omega
theorem rM (h:RKAt w r kind P u pv waste l pre) (hb:xT (pcs l)≤100000000000000) (hpl:pre.length≤100000000000000) (hp:∀(i:Nat) (hi:i<(pcs l).length),¬(kind=3∧i=0)→pre.length≤(pcs l)[i].key.length):
 Calls Tryz.prog 105 #[.pointer (some ⟨r,0,none⟩)] w fun e w'=>e= .returned (.int .i64 (z5 kind (pcs l) pre.length:Nat))∧Below w.heap.size w w':=by
 obtain ⟨A,c,rfl,hm,hc⟩:=h.rd.slice;obtain ⟨PA,pc,rfl⟩:=Own.slice h.pre;obtain ⟨b0,b1,b2,b3,b4⟩:=zC h.blk;have hblk:=h.blk
 have hE:Calls Tryz.prog 155 #[.int .i64 kind,.slice A l.length c,.int .i64 (pre.length:Int)] w.drew fun e w'=>e= .returned (.int .i64 (z5 kind (pcs l) pre.length:Nat))∧Below w.heap.size w w':=by
  have hbd:=(Below.refl w.heap.size w).drew;refine (pJ kind _ l pre.length w.drew (h.rd.below hbd) (by omega) (rY hb) hpl hp).mono ?_;rintro e w' ⟨rfl,hw⟩;exact ⟨rfl,hbd.trans (hw.mono hbd.size)⟩
 generalize z5 kind (pcs l) pre.length=z at*;have HE:=Lib.hid hE;clear hE hb hpl hp h hm hc;go_enter Tryz.func105,Tryz.ntmps105;go_upto_region 1 with (fail)
 go_region_held3 (fun w'=>w'.cell? ⟨r,0,none⟩=some (.int .i64 kind)∧w'.cell? ⟨r,2,none⟩=some (.slice A l.length c)∧w'.cell? ⟨r,3,none⟩=some (.slice PA pre.length pc))
  (first|exact ⟨b0,b2,b3⟩|(have hx:=zC (hblk.below hw2 hblk.lt);exact ⟨hx.1,hx.2.2.1,hx.2.2.2.1⟩))
  (first
   |(go_at_call 155;refine HE.out.mono ?_;rintro e w2 ⟨rfl,hw2⟩)
   |fail)
 go_wp2_with fail;go_ret;exact ⟨rfl,hw2⟩
theorem iD (h:RKAt w r kind P u pv waste l pre) (hl:l.length≤65536):
 Calls Tryz.prog 42 #[.pointer (some ⟨r,0,none⟩)] w fun e w'=>∃v,e= .returned v∧OwB w' w.heap.size v (dQ kind (pcs l) (P:Int))∧Below w.heap.size w w':=by
 obtain ⟨A,c,rfl,hm,hc⟩:=h.rd.slice;obtain ⟨b0,b1,b2,b3,b4⟩:=zC h.blk;have hblk:=h.blk
 have hE:Calls Tryz.prog 64 #[.int .i64 kind,.slice A l.length c,.int .i64 (P:Int)] w.drew fun e w'=>∃u,e= .returned (.tuple #[u,.int .i64 (dW kind (pcs l) P)])∧OwB w' w.heap.size u (dQ kind (pcs l) P)∧Below w.heap.size w w':=by
  have hbd:=(Below.refl w.heap.size w).drew;refine (zEA kind _ l (P:Int) w.drew (h.rd.below hbd) (by omega)).mono ?_;rintro e w' ⟨u,rfl,ho,hw⟩;exact ⟨u,rfl,ho,hbd.trans (hw.mono hbd.size)⟩
 generalize dW kind (pcs l) P=z at*;generalize dQ kind (pcs l) P=eb at*;have HE:=Lib.hid hE;clear hE h hm hc;go_enter Tryz.func42,Tryz.ntmps42;go_upto_region 1 with (fail)
 go_region_held3 (fun w'=>w'.cell? ⟨r,0,none⟩=some (.int .i64 kind)∧w'.cell? ⟨r,1,none⟩=some (.int .i64 (P:Int))∧w'.cell? ⟨r,2,none⟩=some (.slice A l.length c))
  (first|exact ⟨b0,b1,b2⟩|(have hx:=zC (hblk.below hw2 hblk.lt);exact ⟨hx.1,hx.2.1,hx.2.2.1⟩))
  (first
   |(go_at_call 64;refine HE.out.mono ?_;rintro e w2 ⟨v2,rfl,ho2,hw2⟩)
   |fail)
 go_wp2_with fail;go_ret;exact ⟨v2,rfl,ho2,hw2⟩
theorem b7 {M:List Ent} (hS:Sep w0 w (rkB r kind P u pv waste::M)) (hM:CsIn M u l) (hn:l.length≤65536) (hb:xT (pcs l)≤100000000000000):
 Calls Tryz.prog 86 #[.pointer (some ⟨r,0,none⟩)] w fun e w'=>(∃x,e= .returned x)∧∃pv',Sep w0 w' (rkB r kind P u pv' 0::zB pv' (xE kind (pcs l))::M):=by
 have hrd:=hM.at_ hS (fun E hE=>List.mem_cons_of_mem _ hE);obtain ⟨U,uc,rfl,hm,hc⟩:=hrd.slice;have hbp:OBlk w r 118 [.int .i64 kind,.int .i64 (P:Int),.slice U l.length uc,pv,.int .i64 (waste:Int)]:=hS.head;obtain ⟨b0,b1,b2,b3,b4⟩:=zC hbp
 have hsh:Calls Tryz.prog 123 #[.int .i64 kind,.slice U l.length uc] w.drew (fN w.drew (xE kind (pcs l))):=
  bV kind _ l w.drew (hrd.below ((Below.refl _ _).drew)) (by omega) (fun x hx=>by have:=rY hb x hx;omega)
 generalize xE kind (pcs l)=pre' at*;have hpz:=hbp.lt;clear hrd hm hc hb hM;go_enter Tryz.func86,Tryz.ntmps86;go_upto_region 0 with (fail)
 go_region_law
  (first
   |(go_simp;go_at_call 123;refine hsh.mono ?_;rintro e w2 ⟨v2,rfl,ho2,hw2⟩;obtain ⟨V2,vc2,rfl⟩:=Own.slice ho2;have hB2:=hbp.drew.below hw2 hpz;obtain ⟨d0,d1,d2,d3,d4⟩:=zC hB2;have g3:=hB2.frozen (j:=3) (by simp);have hS2:=hS.drew.bytes hw2 ho2 (Nat.le_refl _))
   |fail)
 all_goals
  have hS3:Sep w0 _ (rkB r kind P (.slice U l.length uc) (.slice V2 pre'.length vc2) waste::zB (.slice V2 pre'.length vc2) pre'::M):=hS2.sw1.setCell 3 (.slice V2 pre'.length vc2);have hB3:OBlk _ r 118 [.int .i64 kind,.int .i64 (P:Int),.slice U l.length uc,.slice V2 pre'.length vc2,.int .i64 (waste:Int)]:=hS3.head;obtain ⟨c0,c1,c2,c3,c4⟩:=zC hB3;have f4:=hB3.frozen (j:=4) (by simp);go_wp2_with fail
  go_end0
  exact ⟨⟨_,rfl⟩,_,hS3.setCell 4 (.int .i64 0)⟩
theorem zAA (h:Sep w0 w L) (v:Value) (b:List UInt8) (hv:RdB w v b):
 Calls Tryz.prog 45 #[v] w fun e w'=>
  (∃p kind l,jV b kind l∧e= .returned (.tuple #[.pointer (some ⟨p,0,none⟩),.int .i64 0])∧RkP w0 w' L p b.length kind (jI kind l))∨
  ((∀kind l,¬jV b kind l)∧e= .returned (.tuple #[.pointer none,.int .i64 60])∧Sep w0 w' L):=by
 have hD:=wT v b w hv;obtain ⟨A,c,rfl,hm⟩:=hv.form;go_enter Tryz.func45,Tryz.ntmps45;go_wp2_with fail;refine hD.mono ?_;rintro e w1 (⟨kind,l,v,hpk,rfl,hr,hS⟩|⟨hno,rfl,hb⟩)
 ·have hinv:=rU hpk;have hb2:=(zZ hpk.1).2;have hbig:=hinv.big (by omega);have hln:=hinv.len (show b.length≤65536 by omega);have hS1:=Sep.lift1 hS (List.mem_cons_self ..) h;have hO:Own w1 0 43 5 v l.length (zF l):=hS.head.1 _ (List.mem_cons_self ..);obtain ⟨B,d,rfl⟩:=Own.slice hO;have hS2:Sep w0 _ (rkB w1.heap.size kind b.length (.slice B l.length d) (.slice none 0 0) 0::csE (.slice B l.length d) l::L):=hS1.alloc 118 [.int .i64 kind,.int .i64 (b.length:Int),.slice B l.length d,.slice none 0 0,.int .i64 0];have hT:=b7 hS2 (fun W hW=>qA (hW _ (List.mem_cons_self ..)) hr) (by have:(jI kind (pcs l)).l=pcs l:=rfl;rw [this,zA] at hln;omega) (by have:(jI kind (pcs l)).l=pcs l:=rfl;rw [this] at hbig;omega);have HPK:=Lib.hid hpk;clear hD hS hS1 hS2 hO hinv hbig hln
  go_wp2_with (first
   |(go_at_call 86;(with_reducible refine hT.mono ?_);rintro e w2 ⟨⟨x,rfl⟩,pv',hS3⟩)
   |fail)
  go_ret2;exact .inl ⟨_,kind,pcs l,HPK.out,rfl,.slice B l.length d,pv',l,rfl,hr,Sep.rkShut (hS3.sn [_])⟩
 ·have HN:=Lib.hid hno;have hS:=h.below hb;clear hD hno;go_wp2_with fail;go_ret2;exact .inr ⟨HN.out,rfl,hS⟩
theorem mV (h:Sep w0 w L) (x:CV) (hx:x.ok w) (s1:x.c.key.length≤140737488355328) (s2:x.c.val.length≤140737488355328):
 Calls Tryz.prog 154 #[zJ x] w fun e w'=>∃y:CV,e= .returned (zJ y)∧y.c=x.c∧Sep w0 w' (zB y.kv y.c.key::zB y.vv y.c.val::L):=by
 obtain ⟨A,ca,B,cb,key,ck,val,pg,ct,rfl,hk1,hk2⟩:=CV.form hx;have hxk:RdB w (.slice A key.length ca) key:=hx.k;have hxv:RdB w (.slice B val.length cb) val:=hx.v;have hS1:=(((Sep.start w).alloc 43 [.slice A key.length ca,.int .i64 ck,.slice B val.length cb,.int .i64 pg,.int .i64 ct])).alloc 43 [.slice none 0 0,.int .i64 0,.slice none 0 0,.int .i64 0,.int .i64 0];have hz1:(w.alloc (.cells [.slice A key.length ca,.int .i64 ck,.slice B val.length cb,.int .i64 pg,.int .i64 ct].toArray 43)).heap.size=w.heap.size+1:=World.size_alloc _ _;rw [hz1] at hS1;simp only at s1 s2;unfold zJ;go_enter Tryz.func154,Tryz.ntmps154;go_upto_region 1 with (fail);generalize hW1:(w.alloc (.cells #[.slice A key.length ca,.int .i64 ck,.slice B val.length cb,.int .i64 pg,.int .i64 ct] 43)).alloc (.cells #[.slice none 0 0,.int .i64 0,.slice none 0 0,.int .i64 0,.int .i64 0] 43)=w1 at*;clear hW1 hz1;have hA:=yL (l:= []) (u:= .slice A key.length ca) (m:=key) hS1.nil ⟨yK w,by simp,fun _ h=>hxk.keep fun p hp=>World.cell?_of_block (h p.block hp)⟩ (by simp;omega);obtain ⟨c0,c1,c2,c3,c4⟩:=zC (show OBlk w1 w.heap.size 43 [.slice A key.length ca,.int .i64 ck,.slice B val.length cb,.int .i64 pg,.int .i64 ct] from hS1.tail.head);rw [List.nil_append] at hA
 go_upto_region 2 with (first
  |(go_at_call 124;(with_reducible refine hA.mono ?_);rintro e w2 ⟨v2,rfl,hS2⟩;obtain ⟨K2,kc2,hns2⟩:=Own.slice (show OwB w2 0 v2 key from hS2.head);subst hns2;obtain ⟨e0,e1,e2,e3,e4⟩:=zC (show OBlk w2 w.heap.size 43 [.slice A key.length ca,.int .i64 ck,.slice B val.length cb,.int .i64 pg,.int .i64 ct] from hS2.tail.tail.head);obtain ⟨f0,f1,f2,f3,f4⟩:=xJ (show OBlk w2 w.heap.size 43 [.slice A key.length ca,.int .i64 ck,.slice B val.length cb,.int .i64 pg,.int .i64 ct] from hS2.tail.tail.head))
  |fail)
 have hS3:Sep w _ (z7 w.heap.size 43 [.slice K2 key.length kc2,.int .i64 ck,.slice B val.length cb,.int .i64 pg,.int .i64 ct]::zB (.slice K2 key.length kc2) key::z7 (w.heap.size+1) 43 [.slice none 0 0,.int .i64 0,.slice none 0 0,.int .i64 0,.int .i64 0]:: [yK w]):=(Sep.sw2 hS2).setCell 0 (.slice K2 key.length kc2);clear hS2 hS1 c0 c1 c2 c3 c4 e0 e1 e2 e3 e4 f0 f1 f2 f3 f4 hA;generalize w2.setCell ⟨w.heap.size,0,none⟩ (.slice K2 key.length kc2)=w3 at*;have hA:=yL (l:= []) (u:= .slice B val.length cb) (m:=val) hS3.nil ⟨yK w,by simp,fun _ h=>hxv.keep fun p hp=>World.cell?_of_block (h p.block hp)⟩ (by simp;omega);rw [List.nil_append] at hA;obtain ⟨c0,c1,c2,c3,c4⟩:=zC hS3.blk
 go_upto_region 3 with (first
  |(go_at_call 124;(with_reducible refine hA.mono ?_);rintro e w4 ⟨v4,rfl,hS4⟩;obtain ⟨V4,vc4,hns4⟩:=Own.slice (show OwB w4 0 v4 val from hS4.head);subst hns4;obtain ⟨e0,e1,e2,e3,e4⟩:=zC (show OBlk w4 w.heap.size 43 [.slice K2 key.length kc2,.int .i64 ck,.slice B val.length cb,.int .i64 pg,.int .i64 ct] from hS4.tail.head);obtain ⟨f0,f1,f2,f3,f4⟩:=xJ (show OBlk w4 w.heap.size 43 [.slice K2 key.length kc2,.int .i64 ck,.slice B val.length cb,.int .i64 pg,.int .i64 ct] from hS4.tail.head))
  |fail)
 have hS5:Sep w _ (z7 w.heap.size 43 [.slice K2 key.length kc2,.int .i64 ck,.slice V4 val.length vc4,.int .i64 pg,.int .i64 ct]::zB (.slice V4 val.length vc4) val::zB (.slice K2 key.length kc2) key::z7 (w.heap.size+1) 43 [.slice none 0 0,.int .i64 0,.slice none 0 0,.int .i64 0,.int .i64 0]:: [yK w]):=(Sep.sw1 hS4).setCell 2 (.slice V4 val.length vc4);clear hS4 hS3 c0 c1 c2 c3 c4 e0 e1 e2 e3 e4 f0 f1 f2 f3 f4 hA;generalize w4.setCell ⟨w.heap.size,2,none⟩ (.slice V4 val.length vc4)=w5 at*;obtain ⟨c0,c1,c2,c3,c4⟩:=zC hS5.blk;have hR5:OBlk w5 (w.heap.size+1) 43 [.slice none 0 0,.int .i64 0,.slice none 0 0,.int .i64 0,.int .i64 0]:=hS5.tail.tail.tail.head;obtain ⟨r0,r1,r2,r3,r4⟩:=zC hR5;obtain ⟨f0,f1,f2,f3,f4⟩:=xJ hR5;go_wp2_with fail;have hS6:=(Sep.sw3 hS5).set5 (.slice K2 key.length kc2) (.int .i64 ck) (.slice V4 val.length vc4) (.int .i64 pg) (.int .i64 ct);obtain ⟨e0,e1,e2,e3,e4⟩:=zC hS6.blk;refine bodyPost_ret (v:= .agg #[.slice K2 key.length kc2,.int .i64 ck,.slice V4 val.length vc4,.int .i64 pg,.int .i64 ct]) ?_ rfl ⟨⟨.slice K2 key.length kc2,.slice V4 val.length vc4,⟨key,ck,val,pg,ct⟩⟩,rfl,rfl,?_⟩
 ·simp [results,Tryz.results154,go_sem,e0,e1,e2,e3,e4]
 ·exact Sep.lift2 (hS6.tail.tail.sw1) (List.mem_singleton.2 rfl) h
def sG (w0:World) (L:List Ent) (r P:Nat) (kind:Int) (s:KP) (z:Int) (c:PC) (e:Ending) (w':World):Prop:=
 ∃y:CV,e= .returned (.tuple #[zJ y,.int .i64 z])∧y.c=c∧(yE c.kind∧yE c.page∧yE c.count)∧RkP w0 w' (zB y.kv y.c.key::zB y.vv y.c.val::L) r P kind s
theorem zAW (hS:RkP w0 w L r P kind s) (hk:KInv kind P s) (hP:P≤65536) (i:Int) (hi64:yE i):
 Calls Tryz.prog 98 #[.pointer (some ⟨r,0,none⟩),.int .i64 i] w (sG w0 L r P kind s (jA s.l i) (xG s.l i)):=by
 obtain ⟨u,pv,l,hpl,hr,hS⟩:=hS;obtain ⟨sl,pre,waste⟩:=s;simp only at hpl;subst hpl;have hlen:=hk.len hP;simp only [zA] at hlen;have hS1:=hS.alloc 43 [.slice none 0 0,.int .i64 0,.slice none 0 0,.int .i64 0,.int .i64 0];have hKt:=hS1.tail.rkAt hr;obtain ⟨U,uc,rfl,hm,hc⟩:=hKt.rd.slice;obtain ⟨b0,b1,b2,b3,b4⟩:=zC hKt.blk;have hbr:=(show OBlk _ w.heap.size 43 [.slice none 0 0,.int .i64 0,.slice none 0 0,.int .i64 0,.int .i64 0] from hS1.head);obtain ⟨d0,d1,d2,d3,d4⟩:=zC hbr;obtain ⟨f0,f1,f2,f3,f4⟩:=xJ hbr;simp only at hS1⊢
 by_cases hin:i<0∨(l.length:Int)≤i
 ·have hz:jA (pcs l) i=64:=by unfold jA;rw [if_pos (by rw [zA];exact hin)]
  have hz2:xG (pcs l) i=⟨[],0,[],0,0⟩:=by unfold xG;rw [if_pos (by rw [zA];exact hin)]
  rw [hz,hz2]
  have hfin:∀w',Sep w0 w' (z7 w.heap.size 43 [.slice none 0 0,.int .i64 0,.slice none 0 0,.int .i64 0,.int .i64 0]::rkE r kind P (.slice U l.length uc) pv waste l pre::L)→
   sG w0 L r P kind ⟨pcs l,pre,waste⟩ 64 ⟨[],0,[],0,0⟩ (.returned (.tuple #[.agg #[.slice none 0 0,.int .i64 0,.slice none 0 0,.int .i64 0,.int .i64 0],.int .i64 64])) w':=fun w' h=>
   ⟨⟨.slice none 0 0,.slice none 0 0,⟨[],0,[],0,0⟩⟩,rfl,rfl,(by simp [yE]),.slice U l.length uc,pv,l,rfl,hr,(h.tail.nil.nil).sw [_,_]⟩
  have HF:=Lib.hid hfin;have HS2:=Lib.hid hS1;clear hfin hS1 hS hz hz2 hKt hbr;rcases hin with h|h
  ·go_enter Tryz.func98,Tryz.ntmps98;go_wp2_with fail;have hS2:=HS2.out;obtain ⟨e0,e1,e2,e3,e4⟩:=zC (show OBlk _ w.heap.size 43 _ from hS2.head);refine bodyPost_ret (v:= .tuple #[.agg #[.slice none 0 0,.int .i64 0,.slice none 0 0,.int .i64 0,.int .i64 0],.int .i64 64]) ?_ rfl (HF.out _ hS2);simp [results,Tryz.results98,go_sem,e0,e1,e2,e3,e4]
  ·have h':¬i<0:=by omega
   go_enter Tryz.func98,Tryz.ntmps98;go_wp2_with fail;have hS2:=HS2.out;obtain ⟨e0,e1,e2,e3,e4⟩:=zC (show OBlk _ w.heap.size 43 _ from hS2.head);refine bodyPost_ret (v:= .tuple #[.agg #[.slice none 0 0,.int .i64 0,.slice none 0 0,.int .i64 0,.int .i64 0],.int .i64 64]) ?_ rfl (HF.out _ hS2);simp [results,Tryz.results98,go_sem,e0,e1,e2,e3,e4]
 ·obtain ⟨k,rfl⟩:∃k:Nat,i=(k:Int):=⟨i.toNat,by omega⟩
  have hkl:k<l.length:=by omega
  have hkp:k<(pcs l).length:=by rw [zA];exact hkl
  have hz:jA (pcs l) (k:Int)=0:=by unfold jA;rw [if_neg (by rw [zA];exact hin)]
  have hz2:xG (pcs l) (k:Int)=l[k].c:=by unfold xG;rw [if_neg (by rw [zA];exact hin),←zV hkl];simp [List.getD,hkp]
  rw [hz,hz2];have hok:=qM (hk.ok (l[k].c) (by show l[k].c∈pcs l;rw [←zV hkl];exact List.getElem_mem hkp)) hP;have hzx:=hKt.rd.ok _ (List.getElem_mem hkl);obtain ⟨ad,rfl,q0,q1,q2,q3,q4⟩:=hKt.rd.at_ hkl;have hrz:yE l[k].c.kind∧yE l[k].c.page∧yE l[k].c.count:=hr _ (List.getElem_mem hkl);generalize l[k]=z at*;have hO:=mV hS1 z hzx (by omega) (by omega)
  have i1:¬(k:Int)<0:=by omega
  have i2:¬(l.length:Int)≤(k:Int):=by omega
  have i2':(k:Int)<(l.length:Int):=by omega
  clear hz hz2 hin hS hk hKt hkp hS1 hbr;obtain ⟨KB,kb,VB,vb,zkey,zck,zval,zpg,zct,rfl,-,-⟩:=CV.form hzx;unfold zJ at hO;simp only at hO hrz⊢;go_enter Tryz.func98,Tryz.ntmps98
  go_wp2_with (first
   |(go_at_call 154;(with_reducible refine hO.mono ?_);rintro e w6 ⟨⟨ykv,yvv,yc⟩,rfl,hyc,hS6⟩;simp only at hyc;subst hyc;obtain ⟨K2,kc,rfl⟩:=Own.slice (show OwB w6 0 ykv zkey from hS6.head);obtain ⟨V2,vc,rfl⟩:=Own.slice (show OwB w6 0 yvv zval from hS6.tail.head);have hB6:OBlk w6 w.heap.size 43 [.slice none 0 0,.int .i64 0,.slice none 0 0,.int .i64 0,.int .i64 0]:=hS6.tail.tail.head;obtain ⟨g0,g1,g2,g3,g4⟩:=zC hB6;obtain ⟨h0,h1,h2,h3,h4⟩:=xJ hB6)
   |fail)
  have hS7:=(Sep.sw2 hS6).set5 (.slice K2 zkey.length kc) (.int .i64 zck) (.slice V2 zval.length vc) (.int .i64 zpg) (.int .i64 zct);obtain ⟨e0,e1,e2,e3,e4⟩:=zC (show OBlk _ w.heap.size 43 _ from hS7.head);refine bodyPost_ret (v:= .tuple #[.agg #[.slice K2 zkey.length kc,.int .i64 zck,.slice V2 zval.length vc,.int .i64 zpg,.int .i64 zct],.int .i64 0]) ?_ rfl ⟨⟨.slice K2 zkey.length kc,.slice V2 zval.length vc,⟨zkey,zck,zval,zpg,zct⟩⟩,rfl,rfl,hrz,.slice (some ad) l.length uc,pv,l,rfl,hr,(hS7.tail).sw [_,_]⟩;simp [results,Tryz.results98,go_sem,e0,e1,e2,e3,e4]
end
theorem sZ {w0 w:World} {L:List Ent} (h:Sep w0 w L) (x:CV) (hx:x.ok w) (s1:x.c.key.length≤140737488355328) (s2:x.c.val.length≤140737488355328):
 Calls Tryz.prog 153 #[zJ x] w fun e w'=>∃y:CV,e= .returned (zJ y)∧y.c=x.c∧Sep w0 w' (zB y.kv y.c.key::zB y.vv y.c.val::L):=by
 obtain ⟨A,ca,B,cb,key,ck,val,pg,ct,rfl,hk1,hk2⟩:=CV.form hx;have hxk:RdB w (.slice A key.length ca) key:=hx.k;have hxv:RdB w (.slice B val.length cb) val:=hx.v;have hS1:=(((Sep.start w).alloc 43 [.slice A key.length ca,.int .i64 ck,.slice B val.length cb,.int .i64 pg,.int .i64 ct])).alloc 43 [.slice none 0 0,.int .i64 0,.slice none 0 0,.int .i64 0,.int .i64 0];have hz1:(w.alloc (.cells [.slice A key.length ca,.int .i64 ck,.slice B val.length cb,.int .i64 pg,.int .i64 ct].toArray 43)).heap.size=w.heap.size+1:=World.size_alloc _ _;rw [hz1] at hS1;simp only at s1 s2;unfold zJ;go_enter Tryz.func153,Tryz.ntmps153;go_upto_region 1 with (fail)
 have hm1:yK w∈ [z7 (w.heap.size+1) 43 [.slice none 0 0,.int .i64 0,.slice none 0 0,.int .i64 0,.int .i64 0],z7 w.heap.size 43 [.slice A key.length ca,.int .i64 ck,.slice B val.length cb,.int .i64 pg,.int .i64 ct],yK w]:=by simp
 generalize hW1:(w.alloc (.cells #[.slice A key.length ca,.int .i64 ck,.slice B val.length cb,.int .i64 pg,.int .i64 ct] 43)).alloc (.cells #[.slice none 0 0,.int .i64 0,.slice none 0 0,.int .i64 0,.int .i64 0] 43)=w1 at*;clear hW1 hz1;have hkr:=hS1.rd hm1 hxk;have hC1:OBlk w1 w.heap.size 43 [.slice A key.length ca,.int .i64 ck,.slice B val.length cb,.int .i64 pg,.int .i64 ct]:=hS1.tail.head;obtain ⟨c0,c1,c2,c3,c4⟩:=zC hC1
 go_upto_region 2 with (first
  |(at_builtin;refine yG rfl (.const (.slice none 0 0)) (.tmp 4) rfl 0 _ [] rfl (OwB.nil _ _) _ key rfl hkr (by simp;omega) (Nat.zero_le _) ?_;intro v2 w2 ho2 hg2 hk2;rw [List.nil_append] at ho2;obtain ⟨K2,kc2,hns2⟩:=Own.slice ho2;subst hns2;have hS2:=(hS1.nil).appended ho2 hg2 hk2;obtain ⟨e0,e1,e2,e3,e4⟩:=zC (show OBlk w2 w.heap.size 43 [.slice A key.length ca,.int .i64 ck,.slice B val.length cb,.int .i64 pg,.int .i64 ct] from hS2.tail.tail.head);obtain ⟨f0,f1,f2,f3,f4⟩:=xJ (show OBlk w2 w.heap.size 43 [.slice A key.length ca,.int .i64 ck,.slice B val.length cb,.int .i64 pg,.int .i64 ct] from hS2.tail.tail.head))
  |fail)
 have hS3:Sep w _ (z7 w.heap.size 43 [.slice K2 key.length kc2,.int .i64 ck,.slice B val.length cb,.int .i64 pg,.int .i64 ct]::zB (.slice K2 key.length kc2) key::z7 (w.heap.size+1) 43 [.slice none 0 0,.int .i64 0,.slice none 0 0,.int .i64 0,.int .i64 0]:: [yK w]):=(Sep.sw2 hS2).setCell 0 (.slice K2 key.length kc2);clear hS2 hS1 hC1 c0 c1 c2 c3 c4 e0 e1 e2 e3 e4 f0 f1 f2 f3 f4 hm1 hkr ho2 hg2 hk2;generalize w2.setCell ⟨w.heap.size,0,none⟩ (.slice K2 key.length kc2)=w3 at*;have hvr:=hS3.rd (v:=w) (by simp) hxv;obtain ⟨c0,c1,c2,c3,c4⟩:=zC hS3.blk
 go_upto_region 3 with (first
  |(at_builtin;refine yG rfl (.const (.slice none 0 0)) (.tmp 8) rfl 0 _ [] rfl (OwB.nil _ _) _ val rfl hvr (by simp;omega) (Nat.zero_le _) ?_;intro v4 w4 ho4 hg4 hk4;rw [List.nil_append] at ho4;obtain ⟨V4,vc4,hns4⟩:=Own.slice ho4;subst hns4;have hS4:=(hS3.nil).appended ho4 hg4 hk4;obtain ⟨e0,e1,e2,e3,e4⟩:=zC (show OBlk w4 w.heap.size 43 [.slice K2 key.length kc2,.int .i64 ck,.slice B val.length cb,.int .i64 pg,.int .i64 ct] from hS4.tail.head);obtain ⟨f0,f1,f2,f3,f4⟩:=xJ (show OBlk w4 w.heap.size 43 [.slice K2 key.length kc2,.int .i64 ck,.slice B val.length cb,.int .i64 pg,.int .i64 ct] from hS4.tail.head))
  |fail)
 have hS5:Sep w _ (z7 w.heap.size 43 [.slice K2 key.length kc2,.int .i64 ck,.slice V4 val.length vc4,.int .i64 pg,.int .i64 ct]::zB (.slice V4 val.length vc4) val::zB (.slice K2 key.length kc2) key::z7 (w.heap.size+1) 43 [.slice none 0 0,.int .i64 0,.slice none 0 0,.int .i64 0,.int .i64 0]:: [yK w]):=(Sep.sw1 hS4).setCell 2 (.slice V4 val.length vc4);clear hS4 hS3 c0 c1 c2 c3 c4 e0 e1 e2 e3 e4 f0 f1 f2 f3 f4 hvr ho4 hg4 hk4;generalize w4.setCell ⟨w.heap.size,2,none⟩ (.slice V4 val.length vc4)=w5 at*;obtain ⟨c0,c1,c2,c3,c4⟩:=zC hS5.blk;have hR5:OBlk w5 (w.heap.size+1) 43 [.slice none 0 0,.int .i64 0,.slice none 0 0,.int .i64 0,.int .i64 0]:=hS5.tail.tail.tail.head;obtain ⟨r0,r1,r2,r3,r4⟩:=zC hR5;obtain ⟨f0,f1,f2,f3,f4⟩:=xJ hR5;go_wp2_with fail;have hS6:=(Sep.sw3 hS5).set5 (.slice K2 key.length kc2) (.int .i64 ck) (.slice V4 val.length vc4) (.int .i64 pg) (.int .i64 ct);obtain ⟨e0,e1,e2,e3,e4⟩:=zC hS6.blk;refine bodyPost_ret (v:= .agg #[.slice K2 key.length kc2,.int .i64 ck,.slice V4 val.length vc4,.int .i64 pg,.int .i64 ct]) ?_ rfl ⟨⟨.slice K2 key.length kc2,.slice V4 val.length vc4,⟨key,ck,val,pg,ct⟩⟩,rfl,rfl,?_⟩
 ·simp [results,Tryz.results153,go_sem,e0,e1,e2,e3,e4]
 ·exact Sep.lift2 (hS6.tail.tail.sw1) (List.mem_singleton.2 rfl) h
def rpE (r:Nat) (kind:Int) (P:Nat) (v:Value) (l:List CV):Ent:=lM [z7 r 116 [.int .i64 kind,.int .i64 (P:Int),v],csE v l]
theorem Sep.rpOpen {w0 w:World} {L:List Ent} {p P:Nat} {kind:Int} {u:Value} {l:List CV} (h:Sep w0 w (rpE p kind P u l::L)):
 Sep w0 w (z7 p 116 [.int .i64 kind,.int .i64 (P:Int),u]::zP 43 5 u l.length (zF l)::(zG l++L)):=by
 have h1:Sep w0 w (z7 p 116 [.int .i64 kind,.int .i64 (P:Int),u]::csE u l::L):=h.unpack;exact (Sep.unpack (D:=zP 43 5 u l.length (zF l)::zG l) h1.sw1).perm List.perm_middle
theorem Sep.rpShut {w0 w:World} {L:List Ent} {p P:Nat} {kind:Int} {u:Value} {l:List CV} (h:Sep w0 w (z7 p 116 [.int .i64 kind,.int .i64 (P:Int),u]::csE u l::L)):Sep w0 w (rpE p kind P u l::L):=Sep.pack (D:= [_,_]) h
theorem Sep.rpClose {w0 w:World} {L:List Ent} {p P:Nat} {kind:Int} {u:Value} {l:List CV} (h:Sep w0 w (z7 p 116 [.int .i64 kind,.int .i64 (P:Int),u]::zP 43 5 u l.length (zF l)::(zG l++L))):Sep w0 w (rpE p kind P u l::L):=
 Sep.rpShut ((Sep.pack (D:=zP 43 5 u l.length (zF l)::zG l) (h.perm (List.perm_middle (l₁:=zP 43 5 u l.length (zF l)::zG l)).symm)).sw1)
theorem xC {w:World} {g:Nat} {T:TypeId} {a0 a1 a2:Value} (h:OBlk w g T [a0,a1,a2]):w.cell? ⟨g,0,none⟩=some a0∧w.cell? ⟨g,1,none⟩=some a1∧w.cell? ⟨g,2,none⟩=some a2:=⟨h.cell 0,h.cell 1,h.cell 2⟩
@[irreducible] def slX (U:Option Addr) (c lo:Nat):Option Addr:=if c=lo then U else U.map (·.add (lo*5))
theorem zBL (U:Option Addr) (n c lo:Nat) (h:lo≤n) (w:World):(Instr.slice 32 (.slice U n c) (some (.int .i64 (lo:Int))) none none).run Tryz.prog w= .ok (.slice (slX U c lo) (n-lo) (c-lo)) w:=by
 have:=run_slice_l (P:=Tryz.prog) w 32 U n c kU .i64 lo (by omega) (by omega)
 unfold slX;rw [this,jT];simp [Result.andThen,sliced]
theorem RdCs.cutX {w:World} {U:Option Addr} {n c lo:Nat} {l:List CV} (h:RdCs w (.slice U n c) l) (h1:lo≤l.length):RdCs w (.slice (slX U c lo) (l.length-lo) (c-lo)) (l.drop lo):=by
 have hr:=h.cut h1 (Nat.le_refl _);rw [List.take_length] at hr;unfold slX;exact hr
theorem zDY {w0 w:World} {L:List Ent} {r P:Nat} {kind:Int} {u:Value} {l:List CV} (hS:Sep w0 w (z7 r 116 [.int .i64 kind,.int .i64 (P:Int),u]::zP 43 5 u l.length (zF l)::(zG l++L))) (hr:RngC l) (hlen:l.length≤32768) (x:CV) (hx:XIn L x) (i gone:Nat) (hi:i+gone≤l.length):
 Calls Tryz.prog 176 #[.pointer (some ⟨r,0,none⟩),.int .i64 (i:Int),.int .i64 (gone:Int),zJ x] w fun e w'=>∃(v:Value) (y:CV),e= .returned v∧y.c=x.c∧
  Sep w0 w' (zB y.kv y.c.key::zB y.vv y.c.val::zP 43 5 v (l.take i++y::l.drop (i+gone)).length (zF (l.take i++y::l.drop (i+gone)))::z7 r 116 [.int .i64 kind,.int .i64 (P:Int),u]::zP 43 5 u l.length (zF l)::(zG l++L)):=by
 have hS1:=hS.alloc 43 [x.kv,.int .i64 x.c.kind,x.vv,.int .i64 x.c.page,.int .i64 x.c.count];have hx1:=hx.ok hS1 (fun E hE=>by simp [hE]);have hrd:=hS1.openRd (u:=u) (l:=l) (by simp) (fun E hE=>by simp [hE]) hr;obtain ⟨U,uc,rfl,hm,hc⟩:=hrd.slice;have hbp:OBlk _ r 116 [.int .i64 kind,.int .i64 (P:Int),.slice U l.length uc]:=hS1.tail.head;obtain ⟨b0,b1,b2⟩:=xC hbp;obtain ⟨A1,c1,s1,hr1⟩:=hrd.run_h i (by omega);obtain ⟨A2,hA2⟩:∃X,slX U uc (i+gone)=X:=⟨_,rfl⟩;have s2:=fun W=>zBL U l.length uc (i+gone) hi W;rw [hA2] at s2;have HA2:=Lib.hid hA2;clear hA2;have hfl1:=vB hrd.ok;have hfl:∀v∈zF l,v.oneCell'=true:=hfl1
 have ht1:(l.take i).length=i:=by rw [List.length_take];omega
 have hd1:(l.drop (i+gone)).length=l.length-(i+gone):=List.length_drop
 have i3:IntKind.i64.wrap ((i:Int)+(gone:Int))=(i:Int)+(gone:Int):=by rw [IntKind.wrap_i64];omega
 have s2':∀W,(Instr.slice 32 (.slice U l.length uc) (some (.int .i64 ((i:Int)+(gone:Int)))) none none).run Tryz.prog W= .ok (.slice A2 (l.length-(i+gone)) (uc-(i+gone))) W:=s2;clear hS s2;obtain ⟨KA,ka,VA,va,key,ck,val,pg,ct,rfl,-,-⟩:=CV.form hx1;have HX:=Lib.hid hx;simp only at hS1 hx1;have hrt:=hr1.form;rw [ht1] at hrt;unfold zJ;clear hx hrd hr1;go_enter Tryz.func176,Tryz.ntmps176;go_upto_region 2 with (fail);generalize hW1:w.alloc (.cells #[.slice KA key.length ka,.int .i64 ck,.slice VA val.length va,.int .i64 pg,.int .i64 ct] 43)=w1 at*;obtain ⟨bx,hbx⟩:∃b,w.heap.size=b:=⟨_,rfl⟩;rw [hbx] at hS1⊢;clear hbx hW1
 go_upto_region 3 with (first
  |(at_builtin;refine yP rfl (.tmp 10) (.tmp 16) rfl 0 _ [] rfl (Own.nil _ _ _ _) (.slice A1 i c1) (l.take i) rfl (by rw [ht1];exact hrt) (fun v hv=>hfl v (by rw [gC] at hv;exact List.mem_of_mem_take hv)) (by simp;omega) (Nat.zero_le _) ?_;intro v2 w2 ho2 hg2 hk2;rw [List.nil_append,ht1] at ho2;obtain ⟨B2,bc2,hns2⟩:=Own.slice ho2;subst hns2;have hS2:=(hS1.nilC).appC ho2 hg2 (by rcases hk2 with e|e;exact .inl e;exact .inr ⟨_,e,Nat.le_refl _⟩))
  |fail)
 clear hS1 ho2 hg2 hk2 b0 b1 b2 hbp hx1 hrt;have hC2:OBlk w2 bx 43 [.slice KA key.length ka,.int .i64 ck,.slice VA val.length va,.int .i64 pg,.int .i64 ct]:=hS2.tail.head;obtain ⟨c0,c1',c2',c3,c4⟩:=zC hC2;have hC:=sZ hS2 _ (HX.out.ok hS2 (fun E hE=>by simp [hE])) HX.out.s1 HX.out.s2;unfold zJ at hC;simp only at hC;clear hC2
 go_upto_region 4 with (first
  |(go_at_call 153;(with_reducible refine hC.mono ?_);rintro e w3 ⟨⟨ykv,yvv,yc⟩,rfl,hyc,hS3⟩;simp only at hyc;subst hyc;obtain ⟨K2,kc,rfl⟩:=Own.slice (show OwB w3 0 ykv key from hS3.head);obtain ⟨V2,vc,rfl⟩:=Own.slice (show OwB w3 0 yvv val from hS3.tail.head);have hone:=vC (x:=⟨.slice K2 key.length kc,.slice V2 val.length vc,⟨key,ck,val,pg,ct⟩⟩) (show OwB w3 0 (.slice K2 key.length kc) key from hS3.head) (show OwB w3 0 (.slice V2 val.length vc) val from hS3.tail.head);have hfive:=Rd.five w3 (.slice K2 key.length kc) (.int .i64 ck) (.slice V2 val.length vc) (.int .i64 pg) (.int .i64 ct) 43;have hS4:=hS3.alloc 43 [.slice K2 key.length kc,.int .i64 ck,.slice V2 val.length vc,.int .i64 pg,.int .i64 ct])
  |(at_builtin;refine yP rfl (.tmp 18) (.tmp 21) rfl 0 (.slice B2 i bc2) (l.take i) rfl (by rw [ht1];exact hS4.of_mem (E:=zP 43 5 (.slice B2 i bc2) i (zF (l.take i))) (by simp)) (.slice (some ⟨w3.heap.size,0,none⟩) 1 1) [⟨.slice K2 key.length kc,.slice V2 val.length vc,⟨key,ck,val,pg,ct⟩⟩] rfl hfive (by simpa [zF] using hone) (by rw [ht1];simp;omega) (Nat.zero_le _) ?_;intro v5 w5 ho5 hg5 hk5;rw [List.length_append,ht1,List.length_singleton] at ho5;obtain ⟨B5,bc5,hns5⟩:=Own.slice ho5;subst hns5;have hS5:=(Sep.sw3 hS4).appC ho5 hg5 (by rcases hk5 with e|e;exact .inl e;exact .inr ⟨_,e,Nat.le_refl _⟩))
  |fail)
 clear hS4 hS3 ho5 hg5 hk5 hC hfive hS2 c0 c1' c2' c3 c4;have hrd5:=hS5.openRd (u:= .slice U l.length uc) (l:=l) (by simp) (fun E hE=>by simp [hE]) hr;have hB5:OBlk w5 r 116 [.int .i64 kind,.int .i64 (P:Int),.slice U l.length uc]:=hS5.of_mem (E:=z7 r 116 [.int .i64 kind,.int .i64 (P:Int),.slice U l.length uc]) (by simp);obtain ⟨b0,b1,b2⟩:=xC hB5;have hd5:=(hrd5.cutX hi).form;rw [HA2.out] at hd5
 have hO5:Own w5 0 43 5 (.slice B5 (i+1) bc5) (l.take i++ [(⟨.slice K2 key.length kc,.slice V2 val.length vc,⟨key,ck,val,pg,ct⟩⟩:CV)]).length (zF (l.take i++ [(⟨.slice K2 key.length kc,.slice V2 val.length vc,⟨key,ck,val,pg,ct⟩⟩:CV)])):=by
  rw [List.length_append,ht1,List.length_singleton];exact hS5.head
 clear hrd5 hB5
 go_wp2_with (first
  |(at_builtin;refine yP rfl (.tmp 23) (.tmp 31) rfl 0 (.slice B5 (i+1) bc5) (l.take i++ [⟨.slice K2 key.length kc,.slice V2 val.length vc,⟨key,ck,val,pg,ct⟩⟩]) rfl hO5 (.slice A2 (l.length-(i+gone)) (uc-(i+gone))) (l.drop (i+gone)) rfl hd5 (fun v hv=>hfl v (by rw [gK] at hv;exact List.mem_of_mem_drop hv)) (by rw [List.length_append,ht1,hd1];simp;omega) (Nat.zero_le _) ?_;intro v6 w6 ho6 hg6 hk6;have hS6:=hS5.appC ho6 hg6 (by rcases hk6 with e|e;exact .inl e;exact .inr ⟨_,e,Nat.le_refl _⟩))
  |fail)
 go_ret
 have e1:(l.take i++ [(⟨.slice K2 key.length kc,.slice V2 val.length vc,⟨key,ck,val,pg,ct⟩⟩:CV)])++l.drop (i+gone)=l.take i++(⟨.slice K2 key.length kc,.slice V2 val.length vc,⟨key,ck,val,pg,ct⟩⟩:CV)::l.drop (i+gone):=by simp
 rw [e1] at hS6;exact ⟨v6,⟨.slice K2 key.length kc,.slice V2 val.length vc,⟨key,ck,val,pg,ct⟩⟩,rfl,rfl,Sep.pick (L:= [_,_,_,_,_,_]) [2,3,0,5] (by decide) rfl hS6⟩
theorem zCN {w0 w:World} {L:List Ent} {p P:Nat} {kind:Int} {u:Value} {l:List CV} (hS:Sep w0 w (rpE p kind P u l::L)) (hr:RngC l) (hk:Wk kind P (pcs l)) (hP:P≤65536) (i:Int) (hi64:yE i):
 Calls Tryz.prog 97 #[.pointer (some ⟨p,0,none⟩),.int .i64 i] w (nF w0 (rpE p kind P u l::L) (jA (pcs l) i) (xG (pcs l) i)):=by
 have hlen:=hk.len hP;rw [zA] at hlen;have hS1:=hS.rpOpen.alloc 43 [.slice none 0 0,.int .i64 0,.slice none 0 0,.int .i64 0,.int .i64 0];have hrd:=hS1.openRd (u:=u) (l:=l) (by simp) (fun E hE=>by simp [hE]) hr;obtain ⟨U,uc,rfl,hm,hc⟩:=hrd.slice;have hbp:OBlk _ p 116 [.int .i64 kind,.int .i64 (P:Int),.slice U l.length uc]:=hS1.tail.head;have hbr:=hS1.blk;obtain ⟨b0,b1,b2⟩:=xC hbp;obtain ⟨d0,d1,d2,d3,d4⟩:=zC hbr;obtain ⟨f0,f1,f2,f3,f4⟩:=xJ hbr
 by_cases hin:i<0∨(l.length:Int)≤i
 ·have hz:jA (pcs l) i=64:=by unfold jA;rw [if_pos (by rw [zA];exact hin)]
  have hz2:xG (pcs l) i=⟨[],0,[],0,0⟩:=by unfold xG;rw [if_pos (by rw [zA];exact hin)]
  rw [hz,hz2];have hS2:=hS1;clear hz hz2 hrd hbp hbr hS hS1
  have hfin:∀w',Sep w0 w' (z7 w.heap.size 43 [.slice none 0 0,.int .i64 0,.slice none 0 0,.int .i64 0,.int .i64 0]::z7 p 116 [.int .i64 kind,.int .i64 (P:Int),.slice U l.length uc]::zP 43 5 (.slice U l.length uc) l.length (zF l)::(zG l++L))→
   nF w0 (rpE p kind P (.slice U l.length uc) l::L) 64 ⟨[],0,[],0,0⟩ (.returned (.tuple #[.agg #[.slice none 0 0,.int .i64 0,.slice none 0 0,.int .i64 0,.int .i64 0],.int .i64 64])) w':=fun w' h=>
   ⟨⟨.slice none 0 0,.slice none 0 0,⟨[],0,[],0,0⟩⟩,rfl,rfl,(by simp [fH,yE]),(h.tail.rpClose.nil).nil⟩
  have HF:=Lib.hid hfin;have HS2:=Lib.hid hS2;clear hfin hS2;rcases hin with h|h
  ·go_enter Tryz.func97,Tryz.ntmps97;go_wp2_with fail;have hS2:=HS2.out;obtain ⟨e0,e1,e2,e3,e4⟩:=zC hS2.blk;refine bodyPost_ret (v:= .tuple #[.agg #[.slice none 0 0,.int .i64 0,.slice none 0 0,.int .i64 0,.int .i64 0],.int .i64 64]) ?_ rfl (HF.out _ hS2);simp [results,Tryz.results97,go_sem,e0,e1,e2,e3,e4]
  ·have h':¬i<0:=by omega
   go_enter Tryz.func97,Tryz.ntmps97;go_wp2_with fail;have hS2:=HS2.out;obtain ⟨e0,e1,e2,e3,e4⟩:=zC hS2.blk;refine bodyPost_ret (v:= .tuple #[.agg #[.slice none 0 0,.int .i64 0,.slice none 0 0,.int .i64 0,.int .i64 0],.int .i64 64]) ?_ rfl (HF.out _ hS2);simp [results,Tryz.results97,go_sem,e0,e1,e2,e3,e4]
 ·obtain ⟨k,rfl⟩:∃k:Nat,i=(k:Int):=⟨i.toNat,by omega⟩
  have hkl:k<l.length:=by omega
  have hkp:k<(pcs l).length:=by rw [zA];exact hkl
  have hz:jA (pcs l) (k:Int)=0:=by unfold jA;rw [if_neg (by rw [zA];exact hin)]
  have hz2:xG (pcs l) (k:Int)=l[k].c:=by unfold xG;rw [if_neg (by rw [zA];exact hin),←zV hkl];simp [List.getD,hkp]
  rw [hz,hz2];have hok:=gU (xY (hk.may (l[k].c) (by rw [←zV hkl];exact List.getElem_mem hkp))) hP;have hzx:=hrd.ok _ (List.getElem_mem hkl);obtain ⟨ad,rfl,q0,q1,q2,q3,q4⟩:=hrd.at_ hkl;have hrz:fH l[k].c:=hr _ (List.getElem_mem hkl);generalize l[k]=z at*;have hO:=sZ hS1 z hzx (by omega) (by omega)
  have i1:¬(k:Int)<0:=by omega
  have i2:¬(l.length:Int)≤(k:Int):=by omega
  have i2':(k:Int)<(l.length:Int):=by omega
  clear hz hz2 hin hS hk hrd hkp hS1 hbp hbr;obtain ⟨KB,kb,VB,vb,zkey,zck,zval,zpg,zct,rfl,-,-⟩:=CV.form hzx;unfold zJ at hO;simp only at hO hrz⊢;go_enter Tryz.func97,Tryz.ntmps97
  go_wp2_with (first
   |(go_at_call 153;(with_reducible refine hO.mono ?_);rintro e w6 ⟨⟨ykv,yvv,yc⟩,rfl,hyc,hS6⟩;simp only at hyc;subst hyc;obtain ⟨K2,kc,rfl⟩:=Own.slice (show OwB w6 0 ykv zkey from hS6.head);obtain ⟨V2,vc,rfl⟩:=Own.slice (show OwB w6 0 yvv zval from hS6.tail.head);have hB6:OBlk w6 w.heap.size 43 [.slice none 0 0,.int .i64 0,.slice none 0 0,.int .i64 0,.int .i64 0]:=hS6.tail.tail.head;obtain ⟨g0,g1,g2,g3,g4⟩:=zC hB6;obtain ⟨h0,h1,h2,h3,h4⟩:=xJ hB6)
   |fail)
  have hS7:=(Sep.sw2 hS6).set5 (.slice K2 zkey.length kc) (.int .i64 zck) (.slice V2 zval.length vc) (.int .i64 zpg) (.int .i64 zct);obtain ⟨e0,e1,e2,e3,e4⟩:=zC hS7.blk;refine bodyPost_ret (v:= .tuple #[.agg #[.slice K2 zkey.length kc,.int .i64 zck,.slice V2 zval.length vc,.int .i64 zpg,.int .i64 zct],.int .i64 0]) ?_ rfl ⟨⟨.slice K2 zkey.length kc,.slice V2 zval.length vc,⟨zkey,zck,zval,zpg,zct⟩⟩,rfl,rfl,hrz,?_⟩
  ·simp [results,Tryz.results97,go_sem,e0,e1,e2,e3,e4]
  ·have hS8:Sep w0 _ (z7 p 116 [.int .i64 kind,.int .i64 (P:Int),.slice (some ad) l.length uc]::zP 43 5 (.slice (some ad) l.length uc) l.length (zF l)::zB (.slice K2 zkey.length kc) zkey::zB (.slice V2 zval.length vc) zval::(zG l++L)):=Sep.pick (L:= [_,_,_,_]) [2,3,0,1] (by decide) rfl hS7.tail;exact Sep.pick (L:= [_,_,_]) [1,2,0] (by decide) rfl hS8.pushIn2.rpClose
def p4 (n:Int):Bool:=decide (2≤n∧n<65536)
theorem x7 (n:Int) (w:World):Calls Tryz.prog 158 #[.int .i64 n] w fun e w'=>e= .returned (.bool (p4 n))∧w=w':=by
 by_cases h1:2≤n
 ·by_cases h2:n<65536
  ·have HV:Hid (p4 n=true):=Lib.hid (decide_eq_true ⟨h1,h2⟩);go_enter Tryz.func158,Tryz.ntmps158;go_wp2_with fail;go_ret;rw [HV.out];exact ⟨rfl,rfl⟩
  ·have HV:Hid (p4 n=false):=Lib.hid (decide_eq_false (by omega));go_enter Tryz.func158,Tryz.ntmps158;go_wp2_with fail;go_ret;rw [HV.out];exact ⟨rfl,rfl⟩
 ·have HV:Hid (p4 n=false):=Lib.hid (decide_eq_false (by omega));go_enter Tryz.func158,Tryz.ntmps158;go_wp2_with fail;go_ret;rw [HV.out];exact ⟨rfl,rfl⟩
theorem kN (n:Int) (b:Bool) (w:World) (h:p4 n=b):Calls Tryz.prog 158 #[.int .i64 n] w fun e w'=>e= .returned (.bool b)∧w'=w:=
 (x7 n w).mono fun e w' ⟨h1,h2⟩=>⟨by rw [←h];exact h1,h2.symm⟩
theorem mE (P:Nat) (w:World) (hP:P≤65536):Calls Tryz.prog 157 #[.int .i64 (P:Int)] w fun e w'=>e= .returned (.int .i64 ((P:Int)/8))∧w'=w:=by
 go_enter Tryz.func157,Tryz.ntmps157;go_wp2_with fail;go_ret;exact ⟨rfl,rfl⟩
theorem xO (P:Nat) (w:World) (hP:P≤65536):Calls Tryz.prog 159 #[.int .i64 (P:Int)] w fun e w'=>e= .returned (.int .i64 (3*((P:Int)/16)))∧w'=w:=by
 go_enter Tryz.func159,Tryz.ntmps159;go_wp2_with fail;go_ret;exact ⟨rfl,rfl⟩
theorem uL (kind:Int) (P:Nat) (hk:kind=2∨kind=3) (hP:P≤65536) (x:CV) (w:World) (hx:x.ok w):Calls Tryz.prog 115 #[.int .i64 kind,.int .i64 (P:Int),zJ x] w fun e w'=>e= .returned (.bool (zQ kind P x.c))∧Below w.heap.size w w':=by
 obtain ⟨A,ca,B,cb,key,ck,val,pg,ct,rfl,_,_⟩:=CV.form hx;have hA:Below w.heap.size w (w.alloc (.cells #[.slice A key.length ca,.int .i64 ck,.slice B val.length cb,.int .i64 pg,.int .i64 ct] 43)):=(Below.refl _ _).alloc (Nat.le_refl _) _;obtain ⟨c0,c1,c2,c3,c4⟩:=zC (OBlk.new' w 43 [.slice A key.length ca,.int .i64 ck,.slice B val.length cb,.int .i64 pg,.int .i64 ct]);unfold zJ;clear hx;go_enter Tryz.func115,Tryz.ntmps115;go_upto_region 1 with (fail);generalize w.alloc (.cells #[.slice A key.length ca,.int .i64 ck,.slice B val.length cb,.int .i64 pg,.int .i64 ct] 43)=w0 at*
 by_cases b:P/8<key.length
 ·have b1:(P:Int)/8<(key.length:Int):=by omega
  have HV:Hid (zQ kind P ⟨key,ck,val,pg,ct⟩=false):=Lib.hid (by unfold zQ;rw [if_pos (.inl b)]);clear b hk;go_quiet ((go_at_call 157;exact Calls.quiet_of_same (mE P _ hP)));go_wp2_with fail;go_ret;rw [HV.out];exact ⟨rfl,zK hA _⟩
 have b1:¬(P:Int)/8<(key.length:Int):=by omega
 go_quiet ((go_at_call 157;exact Calls.quiet_of_same (mE P _ hP)));have d0:(w0.drewN nq).cell? ⟨w.heap.size,0,none⟩=some (.slice A key.length ca):=c0;have d1:(w0.drewN nq).cell? ⟨w.heap.size,1,none⟩=some (.int .i64 ck):=c1;have d2:(w0.drewN nq).cell? ⟨w.heap.size,2,none⟩=some (.slice B val.length cb):=c2;have d3:(w0.drewN nq).cell? ⟨w.heap.size,3,none⟩=some (.int .i64 pg):=c3;have d4:(w0.drewN nq).cell? ⟨w.heap.size,4,none⟩=some (.int .i64 ct):=c4;have hB:=zK hA nq;clear c0 c1 c2 c3 c4 hA;generalize w0.drewN nq=w9 at*;rcases hk with rfl|rfl
 ·by_cases z:key.length=0
  ·have z1:(key.length:Int)<1:=by omega
   have HV:Hid (zQ 2 P ⟨key,ck,val,pg,ct⟩=false):=Lib.hid (by unfold zQ;rw [if_pos (.inr (.inl ⟨rfl,z⟩))]);clear z b;go_wp2_with fail;go_ret;rw [HV.out];exact ⟨rfl,hB⟩
  ·have z1:¬(key.length:Int)<1:=by omega
   by_cases k1:ck=1
   ·have k10:(ck==1)=true:=beq_iff_eq.2 k1;subst k1;clear k10
    by_cases v:val.length≤3*(P/16)
    ·have v0:(val.length:Int)≤3*((P:Int)/16):=by omega
     have v1:decide ((val.length:Int)≤3*((P:Int)/16))=true:=decide_eq_true (by omega)
     by_cases p:pg=0
     ·have p0:(pg==0)=true:=beq_iff_eq.2 p
      by_cases c:ct=0
      ·have c0:(ct==0)=true:=beq_iff_eq.2 c;have HV:Hid (zQ 2 P ⟨key,1,val,pg,ct⟩=true):=Lib.hid (by unfold zQ z8 yC;dsimp only;(repeat' split)<;>first|rfl|(exfalso;omega)|exact decide_eq_true (by omega)|exact decide_eq_false (by omega));clear v p c;go_upto_region 9 with (fail);go_quiet ((go_at_call 159;exact Calls.quiet_of_same (xO P _ hP)));go_wp2_with fail;go_ret;rw [HV.out];exact ⟨rfl,zK hB _⟩
      ·have c0:(ct==0)=false:=beq_eq_false_iff_ne.2 c;have HV:Hid (zQ 2 P ⟨key,1,val,pg,ct⟩=false):=Lib.hid (by unfold zQ z8 yC;dsimp only;(repeat' split)<;>first|rfl|(exfalso;omega)|exact decide_eq_true (by omega)|exact decide_eq_false (by omega));clear v p c;go_upto_region 9 with (fail);go_quiet ((go_at_call 159;exact Calls.quiet_of_same (xO P _ hP)));go_wp2_with fail;go_ret;rw [HV.out];exact ⟨rfl,zK hB _⟩
     ·have p0:(pg==0)=false:=beq_eq_false_iff_ne.2 p;have HV:Hid (zQ 2 P ⟨key,1,val,pg,ct⟩=false):=Lib.hid (by unfold zQ z8 yC;dsimp only;(repeat' split)<;>first|rfl|(exfalso;omega)|exact decide_eq_true (by omega)|exact decide_eq_false (by omega));clear v p;go_upto_region 9 with (fail);go_quiet ((go_at_call 159;exact Calls.quiet_of_same (xO P _ hP)));go_wp2_with fail;go_ret;rw [HV.out];exact ⟨rfl,zK hB _⟩
    ·have v0:¬(val.length:Int)≤3*((P:Int)/16):=by omega
     have v1:decide ((val.length:Int)≤3*((P:Int)/16))=false:=decide_eq_false (by omega);have HV:Hid (zQ 2 P ⟨key,1,val,pg,ct⟩=false):=Lib.hid (by unfold zQ z8 yC;dsimp only;(repeat' split)<;>first|rfl|(exfalso;omega)|exact decide_eq_true (by omega)|exact decide_eq_false (by omega));clear v;go_upto_region 9 with (fail);go_quiet ((go_at_call 159;exact Calls.quiet_of_same (xO P _ hP)));go_wp2_with fail;go_ret;rw [HV.out];exact ⟨rfl,zK hB _⟩
   ·have k10:(ck==1)=false:=beq_eq_false_iff_ne.2 k1
    by_cases k2:ck=2
    ·have k20:(ck==2)=true:=beq_iff_eq.2 k2;subst k2;clear k20 k10
     by_cases v:val.length=0
     ·have v0:((val.length:Int)==0)=true:=beq_iff_eq.2 (by omega)
      by_cases nb:2≤pg∧pg<65536
      ·have HNB:Hid (p4 pg=true):=Lib.hid (decide_eq_true nb)
       by_cases g:((3*(P/16):Nat):Int)<ct
       ·have g0:3*((P:Int)/16)<ct:=by omega
        have g1:decide (3*((P:Int)/16)<ct)=true:=decide_eq_true (by omega)
        by_cases h:ct≤65536
        ·have h0:ct≤65536:=by omega
         have h1:decide (ct≤65536)=true:=decide_eq_true (by omega);have HV:Hid (zQ 2 P ⟨key,2,val,pg,ct⟩=true):=Lib.hid (by unfold zQ z8 yC;dsimp only;(repeat' split)<;>first|rfl|(exfalso;omega)|exact decide_eq_true (by omega)|exact decide_eq_false (by omega));clear v nb g h;go_upto_region 11 with (fail);go_quiet ((first|(go_at_call 159;exact Calls.quiet_of_same (xO P _ hP))|(go_at_call 158;exact Calls.quiet_of_same ((kN pg _ _ HNB.out)))));go_wp2_with fail;go_ret;rw [HV.out];exact ⟨rfl,zK hB _⟩
        ·have h0:¬ct≤65536:=by omega
         have h1:decide (ct≤65536)=false:=decide_eq_false (by omega);have HV:Hid (zQ 2 P ⟨key,2,val,pg,ct⟩=false):=Lib.hid (by unfold zQ z8 yC;dsimp only;(repeat' split)<;>first|rfl|(exfalso;omega)|exact decide_eq_true (by omega)|exact decide_eq_false (by omega));clear v nb g h;go_upto_region 11 with (fail);go_quiet ((first|(go_at_call 159;exact Calls.quiet_of_same (xO P _ hP))|(go_at_call 158;exact Calls.quiet_of_same ((kN pg _ _ HNB.out)))));go_wp2_with fail;go_ret;rw [HV.out];exact ⟨rfl,zK hB _⟩
       ·have g0:¬3*((P:Int)/16)<ct:=by omega
        have g1:decide (3*((P:Int)/16)<ct)=false:=decide_eq_false (by omega);have HV:Hid (zQ 2 P ⟨key,2,val,pg,ct⟩=false):=Lib.hid (by unfold zQ z8 yC;dsimp only;(repeat' split)<;>first|rfl|(exfalso;omega)|exact decide_eq_true (by omega)|exact decide_eq_false (by omega));clear v nb g;go_upto_region 11 with (fail);go_quiet ((first|(go_at_call 159;exact Calls.quiet_of_same (xO P _ hP))|(go_at_call 158;exact Calls.quiet_of_same ((kN pg _ _ HNB.out)))));go_wp2_with fail;go_ret;rw [HV.out];exact ⟨rfl,zK hB _⟩
      ·have HNB:Hid (p4 pg=false):=Lib.hid (decide_eq_false nb);have HV:Hid (zQ 2 P ⟨key,2,val,pg,ct⟩=false):=Lib.hid (by unfold zQ z8 yC;dsimp only;(repeat' split)<;>first|rfl|(exfalso;omega)|exact decide_eq_true (by omega)|exact decide_eq_false (by omega));clear v nb;go_upto_region 11 with (fail);go_quiet ((first|(go_at_call 159;exact Calls.quiet_of_same (xO P _ hP))|(go_at_call 158;exact Calls.quiet_of_same ((kN pg _ _ HNB.out)))));go_wp2_with fail;go_ret;rw [HV.out];exact ⟨rfl,zK hB _⟩
     ·have v0:((val.length:Int)==0)=false:=beq_eq_false_iff_ne.2 (by omega);have HV:Hid (zQ 2 P ⟨key,2,val,pg,ct⟩=false):=Lib.hid (by unfold zQ z8 yC;dsimp only;(repeat' split)<;>first|rfl|(exfalso;omega)|exact decide_eq_true (by omega)|exact decide_eq_false (by omega));clear v;go_upto_region 11 with (fail);go_quiet ((first|(go_at_call 159;exact Calls.quiet_of_same (xO P _ hP))|(go_at_call 158;exact Calls.quiet_of_same ((kN pg _ _ HNB.out)))));go_wp2_with fail;go_ret;rw [HV.out];exact ⟨rfl,zK hB _⟩
    ·have k20:(ck==2)=false:=beq_eq_false_iff_ne.2 k2
     by_cases k4:ck=4
     ·have k40:(ck==4)=true:=beq_iff_eq.2 k4;subst k4;clear k40 k20 k10
      by_cases v:val.length=0
      ·have v0:((val.length:Int)==0)=true:=beq_iff_eq.2 (by omega)
       by_cases p:pg=0
       ·have p0:(pg==0)=true:=beq_iff_eq.2 p
        by_cases c:ct=0
        ·have c0:(ct==0)=true:=beq_iff_eq.2 c;have HV:Hid (zQ 2 P ⟨key,4,val,pg,ct⟩=true):=Lib.hid (by unfold zQ z8 yC;dsimp only;(repeat' split)<;>first|rfl|(exfalso;omega)|exact decide_eq_true (by omega)|exact decide_eq_false (by omega));clear v p c;go_wp2_with fail;go_ret;rw [HV.out];exact ⟨rfl,hB⟩
        ·have c0:(ct==0)=false:=beq_eq_false_iff_ne.2 c
         have nb:¬(2≤pg∧pg<65536):=by omega
         have HNB:Hid (p4 pg=false):=Lib.hid (decide_eq_false nb);have HV:Hid (zQ 2 P ⟨key,4,val,pg,ct⟩=false):=Lib.hid (by unfold zQ z8 yC;dsimp only;(repeat' split)<;>first|rfl|(exfalso;omega)|exact decide_eq_true (by omega)|exact decide_eq_false (by omega));clear v p c nb;go_wp2_with (first|(go_at_call 158;refine (x7 pg _).mono ?_;rintro e w7 ⟨rfl,rfl⟩;rw [HNB.out])|fail);go_ret;rw [HV.out];exact ⟨rfl,hB⟩
       ·have p0:(pg==0)=false:=beq_eq_false_iff_ne.2 p
        by_cases nb:2≤pg∧pg<65536
        ·have HNB:Hid (p4 pg=true):=Lib.hid (decide_eq_true nb)
         by_cases g:1≤ct
         ·have g0:(1:Int)≤ct:=by omega
          by_cases h:ct≤1073741824
          ·have h0:ct≤1073741824:=by omega
           have h1:decide (ct≤1073741824)=true:=decide_eq_true (by omega);have HV:Hid (zQ 2 P ⟨key,4,val,pg,ct⟩=true):=Lib.hid (by unfold zQ z8 yC;dsimp only;(repeat' split)<;>first|rfl|(exfalso;omega)|exact decide_eq_true (by omega)|exact decide_eq_false (by omega));clear v p nb g h;go_wp2_with (first|(go_at_call 158;refine (x7 pg _).mono ?_;rintro e w7 ⟨rfl,rfl⟩;rw [HNB.out])|fail);go_ret;rw [HV.out];exact ⟨rfl,hB⟩
          ·have h0:¬ct≤1073741824:=by omega
           have h1:decide (ct≤1073741824)=false:=decide_eq_false (by omega);have HV:Hid (zQ 2 P ⟨key,4,val,pg,ct⟩=false):=Lib.hid (by unfold zQ z8 yC;dsimp only;(repeat' split)<;>first|rfl|(exfalso;omega)|exact decide_eq_true (by omega)|exact decide_eq_false (by omega));clear v p nb g h;go_wp2_with (first|(go_at_call 158;refine (x7 pg _).mono ?_;rintro e w7 ⟨rfl,rfl⟩;rw [HNB.out])|fail);go_ret;rw [HV.out];exact ⟨rfl,hB⟩
         ·have g0:¬(1:Int)≤ct:=by omega
          have HV:Hid (zQ 2 P ⟨key,4,val,pg,ct⟩=false):=Lib.hid (by unfold zQ z8 yC;dsimp only;(repeat' split)<;>first|rfl|(exfalso;omega)|exact decide_eq_true (by omega)|exact decide_eq_false (by omega));clear v p nb g;go_wp2_with (first|(go_at_call 158;refine (x7 pg _).mono ?_;rintro e w7 ⟨rfl,rfl⟩;rw [HNB.out])|fail);go_ret;rw [HV.out];exact ⟨rfl,hB⟩
        ·have HNB:Hid (p4 pg=false):=Lib.hid (decide_eq_false nb);have HV:Hid (zQ 2 P ⟨key,4,val,pg,ct⟩=false):=Lib.hid (by unfold zQ z8 yC;dsimp only;(repeat' split)<;>first|rfl|(exfalso;omega)|exact decide_eq_true (by omega)|exact decide_eq_false (by omega));clear v p nb;go_wp2_with (first|(go_at_call 158;refine (x7 pg _).mono ?_;rintro e w7 ⟨rfl,rfl⟩;rw [HNB.out])|fail);go_ret;rw [HV.out];exact ⟨rfl,hB⟩
      ·have v0:((val.length:Int)==0)=false:=beq_eq_false_iff_ne.2 (by omega);have HV:Hid (zQ 2 P ⟨key,4,val,pg,ct⟩=false):=Lib.hid (by unfold zQ z8 yC;dsimp only;(repeat' split)<;>first|rfl|(exfalso;omega)|exact decide_eq_true (by omega)|exact decide_eq_false (by omega));clear v;go_wp2_with fail;go_ret;rw [HV.out];exact ⟨rfl,hB⟩
     ·have k40:(ck==4)=false:=beq_eq_false_iff_ne.2 k4;have HV:Hid (zQ 2 P ⟨key,ck,val,pg,ct⟩=false):=Lib.hid (by unfold zQ z8 yC;dsimp only;(repeat' split)<;>first|rfl|(exfalso;omega)|exact decide_eq_true (by omega)|exact decide_eq_false (by omega));clear k1 k2 k4;go_wp2_with fail;go_ret;rw [HV.out];exact ⟨rfl,hB⟩
 ·skip
  by_cases k:ck=3
  ·have k0:(ck==3)=true:=beq_iff_eq.2 k
   by_cases v:val.length=0
   ·have v0:((val.length:Int)==0)=true:=beq_iff_eq.2 (by omega)
    by_cases nb:2≤pg∧pg<65536
    ·have HNB:Hid (p4 pg=true):=Lib.hid (decide_eq_true nb)
     by_cases g:1≤ct
     ·have g0:(1:Int)≤ct:=by omega
      by_cases h:ct≤1073741824
      ·have h0:ct≤1073741824:=by omega
       have h1:decide (ct≤1073741824)=true:=decide_eq_true (by omega);have HV:Hid (zQ 3 P ⟨key,ck,val,pg,ct⟩=true):=Lib.hid (by unfold zQ z8 yC;dsimp only;(repeat' split)<;>first|rfl|(exfalso;omega)|exact decide_eq_true (by omega)|exact decide_eq_false (by omega));clear k v nb g h;go_wp2_with (first|(go_at_call 158;refine (x7 pg _).mono ?_;rintro e w7 ⟨rfl,rfl⟩;rw [HNB.out])|fail);go_ret;rw [HV.out];exact ⟨rfl,hB⟩
      ·have h0:¬ct≤1073741824:=by omega
       have h1:decide (ct≤1073741824)=false:=decide_eq_false (by omega);have HV:Hid (zQ 3 P ⟨key,ck,val,pg,ct⟩=false):=Lib.hid (by unfold zQ z8 yC;dsimp only;(repeat' split)<;>first|rfl|(exfalso;omega)|exact decide_eq_true (by omega)|exact decide_eq_false (by omega));clear k v nb g h;go_wp2_with (first|(go_at_call 158;refine (x7 pg _).mono ?_;rintro e w7 ⟨rfl,rfl⟩;rw [HNB.out])|fail);go_ret;rw [HV.out];exact ⟨rfl,hB⟩
     ·have g0:¬(1:Int)≤ct:=by omega
      have HV:Hid (zQ 3 P ⟨key,ck,val,pg,ct⟩=false):=Lib.hid (by unfold zQ z8 yC;dsimp only;(repeat' split)<;>first|rfl|(exfalso;omega)|exact decide_eq_true (by omega)|exact decide_eq_false (by omega));clear k v nb g;go_wp2_with (first|(go_at_call 158;refine (x7 pg _).mono ?_;rintro e w7 ⟨rfl,rfl⟩;rw [HNB.out])|fail);go_ret;rw [HV.out];exact ⟨rfl,hB⟩
    ·have HNB:Hid (p4 pg=false):=Lib.hid (decide_eq_false nb);have HV:Hid (zQ 3 P ⟨key,ck,val,pg,ct⟩=false):=Lib.hid (by unfold zQ z8 yC;dsimp only;(repeat' split)<;>first|rfl|(exfalso;omega)|exact decide_eq_true (by omega)|exact decide_eq_false (by omega));clear k v nb;go_wp2_with (first|(go_at_call 158;refine (x7 pg _).mono ?_;rintro e w7 ⟨rfl,rfl⟩;rw [HNB.out])|fail);go_ret;rw [HV.out];exact ⟨rfl,hB⟩
   ·have v0:((val.length:Int)==0)=false:=beq_eq_false_iff_ne.2 (by omega);have HV:Hid (zQ 3 P ⟨key,ck,val,pg,ct⟩=false):=Lib.hid (by unfold zQ z8 yC;dsimp only;(repeat' split)<;>first|rfl|(exfalso;omega)|exact decide_eq_true (by omega)|exact decide_eq_false (by omega));clear k v;go_wp2_with fail;go_ret;rw [HV.out];exact ⟨rfl,hB⟩
  ·have k0:(ck==3)=false:=beq_eq_false_iff_ne.2 k;have HV:Hid (zQ 3 P ⟨key,ck,val,pg,ct⟩=false):=Lib.hid (by unfold zQ z8 yC;dsimp only;(repeat' split)<;>first|rfl|(exfalso;omega)|exact decide_eq_true (by omega)|exact decide_eq_false (by omega));clear k;go_wp2_with fail;go_ret;rw [HV.out];exact ⟨rfl,hB⟩
end Go.Proofs.YtfcnkpofcekmgaaGreat
