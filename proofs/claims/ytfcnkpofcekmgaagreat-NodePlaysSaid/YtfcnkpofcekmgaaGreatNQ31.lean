/- Texts joined. -/
import Derived.Test.YtfcnkpofcekmgaaGreatNQ30
set_option maxRecDepth 100000
set_option maxHeartbeats 64000000
namespace Go.Proofs.YtfcnkpofcekmgaaGreat
open Go.RowKit
section
variable {w0 w w':World} {L:List Ent} {r P:Nat} {kind:Int} {s:KP}
theorem zI4 (hS:Rq1 w0 w L r P kind s) (hk:NdI1 kind P s) (hkd:kind=2∨kind=3) (hP:P≤65536) (x:CV) (hx:XIn L x) (i:Int) (hi:yE i):
 Calls Tryz.prog 89 #[.pointer (some ⟨r,0,none⟩),.int .i64 i,zJ x] w fun e w'=>e= .returned (.int .i64 (qT kind P s i 0 x.c))∧Rq1 w0 w' L r P kind (jK kind P s i 0 x.c):=by
 obtain ⟨u,l,h1,h2,h3⟩:=hS;unfold NdI1 at hk;rw [←h1] at hk;refine (aN h3 h2 hk hkd hP x hx i hi).mono ?_;rintro e w' ⟨u',l',rfl,hl,hr,hS'⟩;exact ⟨by unfold qT;rw [h1],u',l',by rw [hl,h1];rfl,hr,hS'⟩
theorem zI0 (hS:Rq2 w0 w L r P kind s) (hk:NdI2 kind P s) (hkd:kind=2∨kind=3) (hP:P≤65536) (x:CV) (hx:XIn L x) (i:Int) (hi:yE i):
 Calls Tryz.prog 90 #[.pointer (some ⟨r,0,none⟩),.int .i64 i,zJ x] w fun e w'=>e= .returned (.int .i64 (fJ kind P s i 0 x.c))∧Rq2 w0 w' L r P kind (gX kind P s i 0 x.c):=
 lS hS hk hkd hP x hx i hi
theorem zJK (hS:Rq1 w0 w L r P kind s) (hk:NdI1 kind P s) (hkd:kind=2∨kind=3) (hP:P≤65536) (x:CV) (hx:XIn L x) (i:Int) (hi:yE i):
 Calls Tryz.prog 91 #[.pointer (some ⟨r,0,none⟩),.int .i64 i,zJ x] w fun e w'=>e= .returned (.int .i64 (qT kind P s i 1 x.c))∧Rq1 w0 w' L r P kind (jK kind P s i 1 x.c):=by
 obtain ⟨u,l,h1,h2,h3⟩:=hS;unfold NdI1 at hk;rw [←h1] at hk;refine (zEW h3 h2 hk hkd hP x hx i hi).mono ?_;rintro e w' ⟨u',l',rfl,hl,hr,hS'⟩;exact ⟨by unfold qT;rw [h1],u',l',by rw [hl,h1];rfl,hr,hS'⟩
theorem zJJ (hS:Rq2 w0 w L r P kind s) (hk:NdI2 kind P s) (hkd:kind=2∨kind=3) (hP:P≤65536) (x:CV) (hx:XIn L x) (i:Int) (hi:yE i):
 Calls Tryz.prog 92 #[.pointer (some ⟨r,0,none⟩),.int .i64 i,zJ x] w fun e w'=>e= .returned (.int .i64 (fJ kind P s i 1 x.c))∧Rq2 w0 w' L r P kind (gX kind P s i 1 x.c):=
 zC6 hS hk hkd hP x hx i hi
theorem zIU (hS:Rq1 w0 w L r P kind s) (hk:NdI1 kind P s) (hP:P≤65536) (i:Int) (hi:yE i):
 Calls Tryz.prog 93 #[.pointer (some ⟨r,0,none⟩),.int .i64 i] w fun e w'=>e= .returned (.int .i64 (sH kind P s i))∧Rq1 w0 w' L r P kind (wA kind P s i):=by
 obtain ⟨u,l,h1,h2,h3⟩:=hS;unfold NdI1 at hk;rw [←h1] at hk;refine (aK h3 h2 hk hP i hi).mono ?_;rintro e w' ⟨u',l',rfl,hl,hr,hS'⟩;exact ⟨by unfold sH;rw [h1],u',l',by rw [hl,h1];rfl,hr,hS'⟩
theorem zIP (hS:Rq2 w0 w L r P kind s) (hk:NdI2 kind P s) (hP:P≤65536) (i:Int) (hi:yE i):
 Calls Tryz.prog 94 #[.pointer (some ⟨r,0,none⟩),.int .i64 i] w fun e w'=>e= .returned (.int .i64 (iS kind P s i))∧Rq2 w0 w' L r P kind (wE kind P s i):=
 lJ hS hk hP i hi
theorem zJN (hS:Rq1 w0 w L r P kind s) (hk:NdI1 kind P s) (hP:P≤65536) (vk:Value) (key:List UInt8) (hv:RdIn L vk key):
 Calls Tryz.prog 95 #[.pointer (some ⟨r,0,none⟩),vk] w fun e w'=>e= .returned (.tuple #[.int .i64 (z6 key s.l:Nat),.bool (isF key s.l)])∧Rq1 w0 w' L r P kind s:=by
 obtain ⟨u,l,h1,h2,h3⟩:=hS;unfold NdI1 at hk;rw [←h1] at hk⊢;refine (zB1 h3 h2 hk hP vk key hv).mono ?_;rintro e w' ⟨rfl,hS'⟩;exact ⟨rfl,u,l,h1,h2,hS'⟩
theorem zJI (hS:Rq2 w0 w L r P kind s) (hk:NdI2 kind P s) (hP:P≤65536) (vk:Value) (key:List UInt8) (hv:RdIn L vk key):
 Calls Tryz.prog 96 #[.pointer (some ⟨r,0,none⟩),vk] w fun e w'=>e= .returned (.tuple #[.int .i64 (z6 key s.l:Nat),.bool (isF key s.l)])∧Rq2 w0 w' L r P kind s:=by
 have hB:=fun W (h:Below w.heap.size w W)=>Rq2.below hS h;obtain ⟨u,pv,l,h1,h2,h3⟩:=hS;have hln:=hk.len hP;have hr:=hk.rise;rw [←h1] at hr hln⊢;rw [zA] at hln;obtain ⟨X,hX,hv⟩:=hv;refine (eK (h3.rkAt h2) hr (by omega) vk key (hv w (h3.of_mem (List.mem_cons_of_mem _ hX)))).mono ?_;rintro e w' ⟨rfl,hb⟩;exact ⟨rfl,hB _ hb⟩
end
section
variable {w0 w w':World} {L:List Ent} {x r P:Nat} {kind:Int} {s:KP}
theorem zJA (hS:RnP1 w0 w L x P kind s) (hk:NdI1 kind P s) (hP:P≤65536) (i:Int) (hi:yE i):
 Calls Tryz.prog 50 #[.pointer (some ⟨x,0,none⟩),.int .i64 i] w fun e w'=>e= .returned (.int .i64 (sH kind P s i))∧RnP1 w0 w' L x P kind (wA kind P s i):=by
 obtain ⟨r,hS⟩:=hS;obtain ⟨a,b,c,hb,rfl,rfl⟩:=hS.ndb;have hK:=zIU hS hk hP i hi;obtain ⟨c0,c1,c2⟩:=xC hb;clear hS hk hb;generalize sH kind P s i=z at*;generalize wA kind P s i=t at*;go_enter Tryz.func50,Tryz.ntmps50;go_wp2_with (first|(go_at_call 93;(with_reducible refine hK.mono ?_);rintro e w1 ⟨rfl,hS1⟩)|fail);go_ret;exact ⟨rfl,r,hS1⟩
theorem zJG (hS:RnP1 w0 w L x P kind s) (hk:NdI1 kind P s) (hP:P≤65536) (vk:Value) (key:List UInt8) (hv:RdIn L vk key):
 Calls Tryz.prog 51 #[.pointer (some ⟨x,0,none⟩),vk] w fun e w'=>e= .returned (.tuple #[.int .i64 (z6 key s.l:Nat),.bool (isF key s.l)])∧RnP1 w0 w' L x P kind s:=by
 obtain ⟨r,hS⟩:=hS;obtain ⟨a,b,c,hb,rfl,rfl⟩:=hS.ndb;have hK:=zJN hS hk hP vk key (RdIn.cons hv);obtain ⟨E,h1,-⟩:=Rq1.sep hS;obtain ⟨X,hX,hv⟩:=hv;obtain ⟨K,kc,rfl,-⟩:=(hv w (h1.of_mem (by simp [hX]))).form;obtain ⟨c0,c1,c2⟩:=xC hb;clear hS hk hb h1 hX hv;generalize z6 key s.l=z at*;generalize isF key s.l=t at*;go_enter Tryz.func51,Tryz.ntmps51;go_wp2_with (first|(go_at_call 95;(with_reducible refine hK.mono ?_);rintro e w1 ⟨rfl,hS1⟩)|fail);go_ret2;exact ⟨rfl,r,hS1⟩
theorem zIG (hS:RnP1 w0 w L x P kind s) (hk:NdI1 kind P s) (hkd:kind=2∨kind=3) (hP:P≤65536) (y:CV) (hx:XIn L y) (i:Int) (hi:yE i):
 Calls Tryz.prog 48 #[.pointer (some ⟨x,0,none⟩),.int .i64 i,zJ y] w fun e w'=>e= .returned (.int .i64 (qT kind P s i 0 y.c))∧RnP1 w0 w' L x P kind (jK kind P s i 0 y.c):=by
 obtain ⟨r,hS⟩:=hS;obtain ⟨E,h1,B⟩:=Rq1.sep hS;have h2:=(h1.alloc 43 [y.kv,.int .i64 y.c.kind,y.vv,.int .i64 y.c.page,.int .i64 y.c.count]).drew;have hx0:=hx.ok h1 (fun E hE=>by simp [hE]);have hK:=zI4 (B _ _ h2.sw1) hk hkd hP y (XIn.app (L1:= [_,_]) hx) i hi;generalize qT kind P s i 0 y.c=z at*;generalize jK kind P s i 0 y.c=t at*;obtain ⟨KA,ka,VA,va,key,ck,val,pg,ct,rfl,-,-⟩:=CV.form hx0;clear hx hx0 h1 hS B hk;unfold zJ at hK⊢;simp only at hK h2⊢;have n1:=OBlk.cell' (show OBlk _ x 87 [.int .i64 1,.pointer (some ⟨r,0,none⟩),.pointer none] from h2.tail.tail.head) (j:=1) rfl;have n0:(w.alloc (.cells #[.slice KA key.length ka,.int .i64 ck,.slice VA val.length va,.int .i64 pg,.int .i64 ct] 43)).cell? ⟨x,0,none⟩=some (.int .i64 1):=OBlk.cell' (show OBlk _ x 87 [.int .i64 1,.pointer (some ⟨r,0,none⟩),.pointer none] from h2.tail.tail.head) (j:=0) rfl;obtain ⟨c0,c1,c2,c3,c4⟩:=zC (show OBlk _ w.heap.size 43 _ from h2.head);clear h2;go_enter Tryz.func48,Tryz.ntmps48;go_upto_region 2 with (fail)
 go_region_held3 (fun w'=>w'.cell? ⟨x,1,none⟩=some (.pointer (some ⟨r,0,none⟩))∧w'.cell? ⟨w.heap.size,0,none⟩=some (.slice KA key.length ka)∧w'.cell? ⟨w.heap.size,1,none⟩=some (.int .i64 ck)∧w'.cell? ⟨w.heap.size,2,none⟩=some (.slice VA val.length va)∧w'.cell? ⟨w.heap.size,3,none⟩=some (.int .i64 pg)∧w'.cell? ⟨w.heap.size,4,none⟩=some (.int .i64 ct))
  (first|exact ⟨n1,c0,c1,c2,c3,c4⟩|exact ⟨OBlk.cell' (show OBlk _ x 87 [.int .i64 1,.pointer (some ⟨r,0,none⟩),.pointer none] from h5.tail.tail.head) (j:=1) rfl,zC (show OBlk _ w.heap.size 43 _ from h5.tail.head)⟩)
  (first
   |(go_at_call 89;(with_reducible refine hK.mono ?_);rintro e w5 ⟨rfl,hS5⟩;obtain ⟨E5,h5,B5⟩:=Rq1.sep hS5)
   |fail)
 go_wp2_with fail;go_ret;exact ⟨rfl,r,B5 _ _ h5.sw1.tail⟩
theorem zH9 (hS:RnP1 w0 w L x P kind s) (hk:NdI1 kind P s) (hkd:kind=2∨kind=3) (hP:P≤65536) (y:CV) (hx:XIn L y) (i:Int) (hi:yE i):
 Calls Tryz.prog 49 #[.pointer (some ⟨x,0,none⟩),.int .i64 i,zJ y] w fun e w'=>e= .returned (.int .i64 (qT kind P s i 1 y.c))∧RnP1 w0 w' L x P kind (jK kind P s i 1 y.c):=by
 obtain ⟨r,hS⟩:=hS;obtain ⟨E,h1,B⟩:=Rq1.sep hS;have h2:=(h1.alloc 43 [y.kv,.int .i64 y.c.kind,y.vv,.int .i64 y.c.page,.int .i64 y.c.count]).drew;have hx0:=hx.ok h1 (fun E hE=>by simp [hE]);have hK:=zJK (B _ _ h2.sw1) hk hkd hP y (XIn.app (L1:= [_,_]) hx) i hi;generalize qT kind P s i 1 y.c=z at*;generalize jK kind P s i 1 y.c=t at*;obtain ⟨KA,ka,VA,va,key,ck,val,pg,ct,rfl,-,-⟩:=CV.form hx0;clear hx hx0 h1 hS B hk;unfold zJ at hK⊢;simp only at hK h2⊢;have n1:=OBlk.cell' (show OBlk _ x 87 [.int .i64 1,.pointer (some ⟨r,0,none⟩),.pointer none] from h2.tail.tail.head) (j:=1) rfl;have n0:(w.alloc (.cells #[.slice KA key.length ka,.int .i64 ck,.slice VA val.length va,.int .i64 pg,.int .i64 ct] 43)).cell? ⟨x,0,none⟩=some (.int .i64 1):=OBlk.cell' (show OBlk _ x 87 [.int .i64 1,.pointer (some ⟨r,0,none⟩),.pointer none] from h2.tail.tail.head) (j:=0) rfl;obtain ⟨c0,c1,c2,c3,c4⟩:=zC (show OBlk _ w.heap.size 43 _ from h2.head);clear h2;go_enter Tryz.func49,Tryz.ntmps49;go_upto_region 2 with (fail)
 go_region_held3 (fun w'=>w'.cell? ⟨x,1,none⟩=some (.pointer (some ⟨r,0,none⟩))∧w'.cell? ⟨w.heap.size,0,none⟩=some (.slice KA key.length ka)∧w'.cell? ⟨w.heap.size,1,none⟩=some (.int .i64 ck)∧w'.cell? ⟨w.heap.size,2,none⟩=some (.slice VA val.length va)∧w'.cell? ⟨w.heap.size,3,none⟩=some (.int .i64 pg)∧w'.cell? ⟨w.heap.size,4,none⟩=some (.int .i64 ct))
  (first|exact ⟨n1,c0,c1,c2,c3,c4⟩|exact ⟨OBlk.cell' (show OBlk _ x 87 [.int .i64 1,.pointer (some ⟨r,0,none⟩),.pointer none] from h5.tail.tail.head) (j:=1) rfl,zC (show OBlk _ w.heap.size 43 _ from h5.tail.head)⟩)
  (first
   |(go_at_call 91;(with_reducible refine hK.mono ?_);rintro e w5 ⟨rfl,hS5⟩;obtain ⟨E5,h5,B5⟩:=Rq1.sep hS5)
   |fail)
 go_wp2_with fail;go_ret;exact ⟨rfl,r,B5 _ _ h5.sw1.tail⟩
end
section
variable {w0 w w':World} {L:List Ent} {x r P:Nat} {kind:Int} {s:KP}
theorem zH8 (hS:RnP2 w0 w L x P kind s) (hk:NdI2 kind P s) (hP:P≤65536) (i:Int) (hi:yE i):
 Calls Tryz.prog 50 #[.pointer (some ⟨x,0,none⟩),.int .i64 i] w fun e w'=>e= .returned (.int .i64 (iS kind P s i))∧RnP2 w0 w' L x P kind (wE kind P s i):=by
 obtain ⟨r,hS⟩:=hS;obtain ⟨a,b,c,hb,rfl,rfl⟩:=hS.ndb;have hK:=zIP hS hk hP i hi;obtain ⟨c0,c1,c2⟩:=xC hb;clear hS hk hb;generalize iS kind P s i=z at*;generalize wE kind P s i=t at*;go_enter Tryz.func50,Tryz.ntmps50;go_wp2_with (first|(go_at_call 94;(with_reducible refine hK.mono ?_);rintro e w1 ⟨rfl,hS1⟩)|fail);go_ret;exact ⟨rfl,r,hS1⟩
theorem zIN (hS:RnP2 w0 w L x P kind s) (hk:NdI2 kind P s) (hP:P≤65536) (vk:Value) (key:List UInt8) (hv:RdIn L vk key):
 Calls Tryz.prog 51 #[.pointer (some ⟨x,0,none⟩),vk] w fun e w'=>e= .returned (.tuple #[.int .i64 (z6 key s.l:Nat),.bool (isF key s.l)])∧RnP2 w0 w' L x P kind s:=by
 obtain ⟨r,hS⟩:=hS;obtain ⟨a,b,c,hb,rfl,rfl⟩:=hS.ndb;have hK:=zJI hS hk hP vk key (RdIn.cons hv);obtain ⟨E,h1,-⟩:=Rq2.sep hS;obtain ⟨X,hX,hv⟩:=hv;obtain ⟨K,kc,rfl,-⟩:=(hv w (h1.of_mem (by simp [hX]))).form;obtain ⟨c0,c1,c2⟩:=xC hb;clear hS hk hb h1 hX hv;generalize z6 key s.l=z at*;generalize isF key s.l=t at*;go_enter Tryz.func51,Tryz.ntmps51;go_wp2_with (first|(go_at_call 96;(with_reducible refine hK.mono ?_);rintro e w1 ⟨rfl,hS1⟩)|fail);go_ret2;exact ⟨rfl,r,hS1⟩
theorem zH3 (hS:RnP2 w0 w L x P kind s) (hk:NdI2 kind P s) (hkd:kind=2∨kind=3) (hP:P≤65536) (y:CV) (hx:XIn L y) (i:Int) (hi:yE i):
 Calls Tryz.prog 48 #[.pointer (some ⟨x,0,none⟩),.int .i64 i,zJ y] w fun e w'=>e= .returned (.int .i64 (fJ kind P s i 0 y.c))∧RnP2 w0 w' L x P kind (gX kind P s i 0 y.c):=by
 obtain ⟨r,hS⟩:=hS;obtain ⟨E,h1,B⟩:=Rq2.sep hS;have h2:=(h1.alloc 43 [y.kv,.int .i64 y.c.kind,y.vv,.int .i64 y.c.page,.int .i64 y.c.count]).drew;have hx0:=hx.ok h1 (fun E hE=>by simp [hE]);have hK:=zI0 (B _ _ h2.sw1) hk hkd hP y (XIn.app (L1:= [_,_]) hx) i hi;generalize fJ kind P s i 0 y.c=z at*;generalize gX kind P s i 0 y.c=t at*;obtain ⟨KA,ka,VA,va,key,ck,val,pg,ct,rfl,-,-⟩:=CV.form hx0;clear hx hx0 h1 hS B hk;unfold zJ at hK⊢;simp only at hK h2⊢;have n1:=OBlk.cell' (show OBlk _ x 87 [.int .i64 2,.pointer none,.pointer (some ⟨r,0,none⟩)] from h2.tail.tail.head) (j:=2) rfl;have n0:(w.alloc (.cells #[.slice KA key.length ka,.int .i64 ck,.slice VA val.length va,.int .i64 pg,.int .i64 ct] 43)).cell? ⟨x,0,none⟩=some (.int .i64 2):=OBlk.cell' (show OBlk _ x 87 [.int .i64 2,.pointer none,.pointer (some ⟨r,0,none⟩)] from h2.tail.tail.head) (j:=0) rfl;obtain ⟨c0,c1,c2,c3,c4⟩:=zC (show OBlk _ w.heap.size 43 _ from h2.head);clear h2;go_enter Tryz.func48,Tryz.ntmps48;go_upto_region 3 with (fail)
 go_region_held3 (fun w'=>w'.cell? ⟨x,2,none⟩=some (.pointer (some ⟨r,0,none⟩))∧w'.cell? ⟨w.heap.size,0,none⟩=some (.slice KA key.length ka)∧w'.cell? ⟨w.heap.size,1,none⟩=some (.int .i64 ck)∧w'.cell? ⟨w.heap.size,2,none⟩=some (.slice VA val.length va)∧w'.cell? ⟨w.heap.size,3,none⟩=some (.int .i64 pg)∧w'.cell? ⟨w.heap.size,4,none⟩=some (.int .i64 ct))
  (first|exact ⟨n1,c0,c1,c2,c3,c4⟩|exact ⟨OBlk.cell' (show OBlk _ x 87 [.int .i64 2,.pointer none,.pointer (some ⟨r,0,none⟩)] from h5.tail.tail.head) (j:=2) rfl,zC (show OBlk _ w.heap.size 43 _ from h5.tail.head)⟩)
  (first
   |(go_at_call 90;(with_reducible refine hK.mono ?_);rintro e w5 ⟨rfl,hS5⟩;obtain ⟨E5,h5,B5⟩:=Rq2.sep hS5)
   |fail)
 go_wp2_with fail;go_ret;exact ⟨rfl,r,B5 _ _ h5.sw1.tail⟩
theorem zI2 (hS:RnP2 w0 w L x P kind s) (hk:NdI2 kind P s) (hkd:kind=2∨kind=3) (hP:P≤65536) (y:CV) (hx:XIn L y) (i:Int) (hi:yE i):
 Calls Tryz.prog 49 #[.pointer (some ⟨x,0,none⟩),.int .i64 i,zJ y] w fun e w'=>e= .returned (.int .i64 (fJ kind P s i 1 y.c))∧RnP2 w0 w' L x P kind (gX kind P s i 1 y.c):=by
 obtain ⟨r,hS⟩:=hS;obtain ⟨E,h1,B⟩:=Rq2.sep hS;have h2:=(h1.alloc 43 [y.kv,.int .i64 y.c.kind,y.vv,.int .i64 y.c.page,.int .i64 y.c.count]).drew;have hx0:=hx.ok h1 (fun E hE=>by simp [hE]);have hK:=zJJ (B _ _ h2.sw1) hk hkd hP y (XIn.app (L1:= [_,_]) hx) i hi;generalize fJ kind P s i 1 y.c=z at*;generalize gX kind P s i 1 y.c=t at*;obtain ⟨KA,ka,VA,va,key,ck,val,pg,ct,rfl,-,-⟩:=CV.form hx0;clear hx hx0 h1 hS B hk;unfold zJ at hK⊢;simp only at hK h2⊢;have n1:=OBlk.cell' (show OBlk _ x 87 [.int .i64 2,.pointer none,.pointer (some ⟨r,0,none⟩)] from h2.tail.tail.head) (j:=2) rfl;have n0:(w.alloc (.cells #[.slice KA key.length ka,.int .i64 ck,.slice VA val.length va,.int .i64 pg,.int .i64 ct] 43)).cell? ⟨x,0,none⟩=some (.int .i64 2):=OBlk.cell' (show OBlk _ x 87 [.int .i64 2,.pointer none,.pointer (some ⟨r,0,none⟩)] from h2.tail.tail.head) (j:=0) rfl;obtain ⟨c0,c1,c2,c3,c4⟩:=zC (show OBlk _ w.heap.size 43 _ from h2.head);clear h2;go_enter Tryz.func49,Tryz.ntmps49;go_upto_region 3 with (fail)
 go_region_held3 (fun w'=>w'.cell? ⟨x,2,none⟩=some (.pointer (some ⟨r,0,none⟩))∧w'.cell? ⟨w.heap.size,0,none⟩=some (.slice KA key.length ka)∧w'.cell? ⟨w.heap.size,1,none⟩=some (.int .i64 ck)∧w'.cell? ⟨w.heap.size,2,none⟩=some (.slice VA val.length va)∧w'.cell? ⟨w.heap.size,3,none⟩=some (.int .i64 pg)∧w'.cell? ⟨w.heap.size,4,none⟩=some (.int .i64 ct))
  (first|exact ⟨n1,c0,c1,c2,c3,c4⟩|exact ⟨OBlk.cell' (show OBlk _ x 87 [.int .i64 2,.pointer none,.pointer (some ⟨r,0,none⟩)] from h5.tail.tail.head) (j:=2) rfl,zC (show OBlk _ w.heap.size 43 _ from h5.tail.head)⟩)
  (first
   |(go_at_call 92;(with_reducible refine hK.mono ?_);rintro e w5 ⟨rfl,hS5⟩;obtain ⟨E5,h5,B5⟩:=Rq2.sep hS5)
   |fail)
 go_wp2_with fail;go_ret;exact ⟨rfl,r,B5 _ _ h5.sw1.tail⟩
end
section
variable {w0 w w':World} {L:List Ent} {P:Nat} {kind:Int}
theorem zEG (hS:Sep w0 w L) (hk:zO kind=true) (hp:zT (P:Int)=true):Calls Tryz.prog 85 #[.int .i64 kind,.int .i64 (P:Int)] w fun e w'=>
 ∃r,e= .returned (.tuple #[.pointer (some ⟨r,0,none⟩),.int .i64 0])∧RkP w0 w' L r P kind ⟨[],[],0⟩:=by
 have hPa:=fun W=>qZ (P:Int) W;rw [hp] at hPa;have hS1:=hS.alloc 118 [.int .i64 kind,.int .i64 (P:Int),.slice none 0 0,.slice none 0 0,.int .i64 0];have HS:=Lib.hid hS1;have hk2:kind=2∨kind=3:=of_decide_eq_true hk;clear hk hp hS1;rcases hk2 with rfl|rfl
 ·go_enter Tryz.func85,Tryz.ntmps85;go_wp2_with (first|(go_at_call 110;refine (hPa _).mono ?_;rintro e w1 ⟨rfl,rfl⟩)|fail);go_ret2;exact ⟨_,rfl,_,_,[],rfl,(fun _ h=>absurd h List.not_mem_nil),Sep.rkClose (l:= []) (Sep.pick (L:= [_,_,_]) [2,0,1] (by decide) rfl (Sep.nilC (Sep.nil HS.out)))⟩
 ·go_enter Tryz.func85,Tryz.ntmps85;go_wp2_with (first|(go_at_call 110;refine (hPa _).mono ?_;rintro e w1 ⟨rfl,rfl⟩)|fail);go_ret2;exact ⟨_,rfl,_,_,[],rfl,(fun _ h=>absurd h List.not_mem_nil),Sep.rkClose (l:= []) (Sep.pick (L:= [_,_,_]) [2,0,1] (by decide) rfl (Sep.nilC (Sep.nil HS.out)))⟩
theorem zCA (Q:Int) (hk:(zT Q&&zO kind)=false):Calls Tryz.prog 85 #[.int .i64 kind,.int .i64 Q] w fun e w'=>
 e= .returned (.tuple #[.pointer none,.int .i64 1])∧w=w':=by
 have hPa:=fun W=>qZ Q W
 by_cases h2:kind=2
 ·subst h2;rw [show zO 2=true from rfl,Bool.and_true] at hk;rw [hk] at hPa;clear hk;go_enter Tryz.func85,Tryz.ntmps85;go_wp2_with (first|(go_at_call 110;refine (hPa _).mono ?_;rintro e w1 ⟨rfl,rfl⟩)|fail);go_ret2;exact ⟨rfl,rfl⟩
 by_cases h3:kind=3
 ·subst h3;rw [show zO 3=true from rfl,Bool.and_true] at hk;rw [hk] at hPa;clear hk;go_enter Tryz.func85,Tryz.ntmps85;go_wp2_with (first|(go_at_call 110;refine (hPa _).mono ?_;rintro e w1 ⟨rfl,rfl⟩)|fail);go_ret2;exact ⟨rfl,rfl⟩
 ·have b2:(kind !=2)=true:=by simp [h2]
  have b3:(kind !=3)=true:=by simp [h3]
  clear h2 h3 hk;generalize zT Q=pq at*;go_enter Tryz.func85,Tryz.ntmps85;go_wp2_with (first|(go_at_call 110;refine (hPa _).mono ?_;rintro e w1 ⟨rfl,rfl⟩)|fail);go_ret2;exact ⟨rfl,rfl⟩
theorem zJP (hS:Sep w0 w L) (hk:zO kind=true) (hp:zT (P:Int)=true):Calls Tryz.prog 84 #[.int .i64 kind,.int .i64 (P:Int)] w fun e w'=>
 ∃r,e= .returned (.tuple #[.pointer (some ⟨r,0,none⟩),.int .i64 0])∧Rq1 w0 w' L r P kind ⟨[],[],0⟩:=by
 refine (zGU hS hk hp).mono ?_;rintro e w' ⟨r,rfl,h⟩;exact ⟨r,rfl,_,[],rfl,(fun _ h=>absurd h List.not_mem_nil),h⟩
theorem zJC (hS:Sep w0 w L) (hk:zO kind=true) (hp:zT (P:Int)=true):Calls Tryz.prog 85 #[.int .i64 kind,.int .i64 (P:Int)] w fun e w'=>
 ∃r,e= .returned (.tuple #[.pointer (some ⟨r,0,none⟩),.int .i64 0])∧Rq2 w0 w' L r P kind ⟨[],[],0⟩:=zEG hS hk hp
end
section
variable {w0 w w':World} {L:List Ent} {P:Nat} {kind:Int}
theorem zKA (hS:Sep w0 w L) (hk:zO kind=true) (hp:zT (P:Int)=true):Calls Tryz.prog 39 #[.int .i64 kind,.int .i64 (P:Int)] w fun e w'=>
 ∃r,e= .returned (.tuple #[.pointer (some ⟨r,0,none⟩),.int .i64 0])∧Rq1 w0 w' L r P kind ⟨[],[],0⟩:=by
 have hK:=zJP hS hk hp;clear hS hk hp;go_enter Tryz.func39,Tryz.ntmps39;go_wp2_with (first|(go_at_call 84;(with_reducible refine hK.mono ?_);rintro e w1 ⟨r,rfl,hS1⟩)|fail);go_ret2;exact ⟨r,rfl,hS1⟩
theorem zKF (Q:Int) (hk:(zT Q&&zO kind)=false):Calls Tryz.prog 39 #[.int .i64 kind,.int .i64 Q] w fun e w'=>
 e= .returned (.tuple #[.pointer none,.int .i64 1])∧w=w':=by
 have hK:=zE0 (w:=w) Q hk;clear hk;go_enter Tryz.func39,Tryz.ntmps39;go_wp2_with (first|(go_at_call 84;(with_reducible refine hK.mono ?_);rintro e w1 ⟨rfl,rfl⟩)|fail);go_ret2;exact ⟨rfl,rfl⟩
theorem zHX (hS:Sep w0 w L) (hk:zO kind=true) (hp:zT (P:Int)=true):Calls Tryz.prog 9 #[.int .i64 1,.int .i64 kind,.int .i64 (P:Int)] w fun e w'=>
 ∃x,e= .returned (.tuple #[.pointer (some ⟨x,0,none⟩),.int .i64 0])∧RnP1 w0 w' L x P kind ⟨[],[],0⟩:=by
 have hS1:=hS.alloc 87 [.int .i64 1,.pointer none,.pointer none];have hK:=zKA hS1 hk hp;clear hS hk hp hS1;go_enter Tryz.func9,Tryz.ntmps9;go_wp2_with (first|(go_at_call 39;(with_reducible refine hK.mono ?_);rintro e w2 ⟨r,rfl,hS2⟩;obtain ⟨E2,h2,B2⟩:=Rq1.sep hS2;have f1:=OBlk.frozen (show OBlk w2 w.heap.size 87 [.int .i64 1,.pointer none,.pointer none] from h2.tail.head) (j:=1) (by simp);have g1:=OBlk.cell' (show OBlk w2 w.heap.size 87 [.int .i64 1,.pointer none,.pointer none] from h2.tail.head) (j:=1) rfl)|fail);go_ret2;have h3:=(Sep.sw1 h2).setCell 1 (.pointer (some ⟨r,0,none⟩));simp only [List.set_cons_succ,List.set_cons_zero] at h3;exact ⟨_,rfl,r,B2 _ _ h3.sw1⟩
theorem zGV (hS:Sep w0 w L) (Q:Int) (hk:(zT Q&&zO kind)=false):Calls Tryz.prog 9 #[.int .i64 1,.int .i64 kind,.int .i64 Q] w fun e w'=>
 e= .returned (.tuple #[.pointer none,.int .i64 1])∧Sep w0 w' L:=by
 have hS1:=hS.alloc 87 [.int .i64 1,.pointer none,.pointer none];have hK:=fun W=>zKF (w:=W) Q hk;have f1:=OBlk.frozen (show OBlk _ w.heap.size 87 [.int .i64 1,.pointer none,.pointer none] from hS1.head) (j:=1) (by simp);have g1:=OBlk.cell' (show OBlk _ w.heap.size 87 [.int .i64 1,.pointer none,.pointer none] from hS1.head) (j:=1) rfl;have HS:=Lib.hid hS1;clear hS hk hS1;go_enter Tryz.func9,Tryz.ntmps9;go_wp2_with (first|(go_at_call 39;(with_reducible refine (hK _).mono ?_);rintro e w2 ⟨rfl,rfl⟩)|fail);go_ret2;exact ⟨rfl,HS.out.tail⟩
theorem zJ5 (hS:Sep w0 w L) (hk:zO kind=true) (hp:zT (P:Int)=true):Calls Tryz.prog 40 #[.int .i64 kind,.int .i64 (P:Int)] w fun e w'=>
 ∃r,e= .returned (.tuple #[.pointer (some ⟨r,0,none⟩),.int .i64 0])∧Rq2 w0 w' L r P kind ⟨[],[],0⟩:=by
 have hK:=zJC hS hk hp;clear hS hk hp;go_enter Tryz.func40,Tryz.ntmps40;go_wp2_with (first|(go_at_call 85;(with_reducible refine hK.mono ?_);rintro e w1 ⟨r,rfl,hS1⟩)|fail);go_ret2;exact ⟨r,rfl,hS1⟩
theorem zKB (Q:Int) (hk:(zT Q&&zO kind)=false):Calls Tryz.prog 40 #[.int .i64 kind,.int .i64 Q] w fun e w'=>
 e= .returned (.tuple #[.pointer none,.int .i64 1])∧w=w':=by
 have hK:=zCA (w:=w) Q hk;clear hk;go_enter Tryz.func40,Tryz.ntmps40;go_wp2_with (first|(go_at_call 85;(with_reducible refine hK.mono ?_);rintro e w1 ⟨rfl,rfl⟩)|fail);go_ret2;exact ⟨rfl,rfl⟩
theorem zJT (hS:Sep w0 w L) (hk:zO kind=true) (hp:zT (P:Int)=true):Calls Tryz.prog 9 #[.int .i64 2,.int .i64 kind,.int .i64 (P:Int)] w fun e w'=>
 ∃x,e= .returned (.tuple #[.pointer (some ⟨x,0,none⟩),.int .i64 0])∧RnP2 w0 w' L x P kind ⟨[],[],0⟩:=by
 have hS1:=hS.alloc 87 [.int .i64 2,.pointer none,.pointer none];have hK:=zJ5 hS1 hk hp;clear hS hk hp hS1;go_enter Tryz.func9,Tryz.ntmps9;go_wp2_with (first|(go_at_call 40;(with_reducible refine hK.mono ?_);rintro e w2 ⟨r,rfl,hS2⟩;obtain ⟨E2,h2,B2⟩:=Rq2.sep hS2;have f1:=OBlk.frozen (show OBlk w2 w.heap.size 87 [.int .i64 2,.pointer none,.pointer none] from h2.tail.head) (j:=2) (by simp);have g1:=OBlk.cell' (show OBlk w2 w.heap.size 87 [.int .i64 2,.pointer none,.pointer none] from h2.tail.head) (j:=2) rfl)|fail);go_ret2;have h3:=(Sep.sw1 h2).setCell 2 (.pointer (some ⟨r,0,none⟩));simp only [List.set_cons_succ,List.set_cons_zero] at h3;exact ⟨_,rfl,r,B2 _ _ h3.sw1⟩
theorem zGT (hS:Sep w0 w L) (Q:Int) (hk:(zT Q&&zO kind)=false):Calls Tryz.prog 9 #[.int .i64 2,.int .i64 kind,.int .i64 Q] w fun e w'=>
 e= .returned (.tuple #[.pointer none,.int .i64 1])∧Sep w0 w' L:=by
 have hS1:=hS.alloc 87 [.int .i64 2,.pointer none,.pointer none];have hK:=fun W=>zKB (w:=W) Q hk;have f1:=OBlk.frozen (show OBlk _ w.heap.size 87 [.int .i64 2,.pointer none,.pointer none] from hS1.head) (j:=2) (by simp);have g1:=OBlk.cell' (show OBlk _ w.heap.size 87 [.int .i64 2,.pointer none,.pointer none] from hS1.head) (j:=2) rfl;have HS:=Lib.hid hS1;clear hS hk hS1;go_enter Tryz.func9,Tryz.ntmps9;go_wp2_with (first|(go_at_call 40;(with_reducible refine (hK _).mono ?_);rintro e w2 ⟨rfl,rfl⟩)|fail);go_ret2;exact ⟨rfl,HS.out.tail⟩
theorem zF9 (hS:Sep w0 w L) (n Q:Int) (h1:n≠1) (h2:n≠2):Calls Tryz.prog 9 #[.int .i64 n,.int .i64 kind,.int .i64 Q] w fun e w'=>
 e= .returned (.tuple #[.pointer none,.int .i64 80])∧Sep w0 w' L:=by
 have HS:=Lib.hid (hS.alloc 87 [.int .i64 n,.pointer none,.pointer none]);have b1:(n==1)=false:=beq_eq_false_iff_ne.2 h1;have b2:(n==2)=false:=beq_eq_false_iff_ne.2 h2;clear hS h1 h2;go_enter Tryz.func9,Tryz.ntmps9;go_wp2_with fail;go_ret2;exact ⟨rfl,HS.out.tail⟩
end
theorem OwQ.drop0 {w:World} {u:Value} {n q:Nat} {m:Int} (h:OwQ w u n m q):OwQ w u n 0 0:=by
 obtain ⟨xs,h1,h2⟩:=h;exact ⟨xs,h1,fun k hk=>absurd hk (Nat.not_lt_zero _)⟩
theorem zAE (P:World→Prop) (v:Value) (vs:List Value) (f:Nat→Nat) (bb:Nat) (w:World) (hP:∀w1,P w1→∃bv,OBlk w1 bb 40 [bv,v]∧Own w1 0 32 1 v vs.length vs∧MkL w1 vs f 0 0) (ha:ApartL vs)
 (hn:vs.length≤1000000) (hsz:∀j,j<vs.length→f j≤1000000000)
 (hbook:Calls Tryz.prog 58 #[.pointer (some ⟨bb,0,none⟩)] w fun e w'=>e= .returned (.bool true)∧P w'):
 Calls Tryz.prog 16 #[.pointer (some ⟨bb,0,none⟩)] w fun e w'=>e= .returned (.bool true)∧∃w1,P w1∧Turn (InL vs) w1 w'∧Own w' 0 32 1 v vs.length vs∧∀(j:Nat) (u:Value),vs[j]? =some u→OwQ w' u (f j) 0 0:=by
 have HPP:=Lib.hid hP;clear hP;go_enter Tryz.func16,Tryz.ntmps16;go_wp2_with fail;refine hbook.mono ?_;rintro e w2 ⟨rfl,hP2⟩;obtain ⟨bv,hblk,hv,hl⟩:=HPP.out w2 hP2;obtain ⟨A,cv,rfl⟩:=hv.slice;have HP2:=Lib.hid hP2;clear hbook hP2;have c0:=hblk.cell' (j:=1) rfl;go_wp2_with fail
 go_loopw [4] (fun i wr=>∃k:Nat,i= .int .i64 (k:Int)∧k≤vs.length∧Own wr 0 32 1 (.slice A vs.length cv) vs.length vs∧MkL wr vs f k 0∧OBlk wr bb 40 [bv,.slice A vs.length cv]∧Turn (InL vs) w2 wr)
  (fun i _=>vs.length-(intOf i).toNat)
 case atStart=>exact ⟨0,rfl,Nat.zero_le _,hv,hl,hblk,Turn.refl _ _⟩
 case round=>
  clear hv hl hblk c0;obtain ⟨k,rfl,hk,hv,hl,hblk,hT⟩:=hrel;have c0:=hblk.cell' (j:=1) rfl
  by_cases hlt:k<vs.length
  ·obtain ⟨gL,rfl⟩:=hv.some' (by omega);have hku:vs[k]? =some vs[k]:=List.getElem?_eq_getElem hlt;have how:=hl k _ hku;have hcell:=hv.cells k _ hku;obtain ⟨B,c,hform⟩:=how.slice;rw [hform] at hku hcell;have HU:=Lib.hid hku;have hm1:=hsz k hlt;obtain ⟨n,hnf⟩:∃n,f k=n:=⟨_,rfl⟩;rw [hnf] at hcell hm1 HU;have HNF:=Lib.hid hnf;clear how hform hku hnf;go_wp2_with fail;obtain ⟨wq,rfl⟩:∃wq,wq=wr:=⟨_,rfl⟩
   go_loopw [6] (fun i wi=>∃q:Nat,i= .int .i64 (q:Int)∧q≤n∧Own wi 0 32 1 (.slice (some ⟨gL,0,none⟩) vs.length cv) vs.length vs∧MkL wi vs f k q∧OBlk wi bb 40 [bv,.slice (some ⟨gL,0,none⟩) vs.length cv]∧Turn (InL vs) w2 wi)
    (fun i _=>n-(intOf i).toNat)
   case atStart=>exact ⟨0,rfl,Nat.zero_le _,hv,hl,hblk,hT⟩
   case round=>
    clear hv hl hblk hT hcell c0;obtain ⟨q,rfl,hq,hv,hl,hblk,hT⟩:=hrel
    by_cases hql:q<n
    ·have how:=hl k _ HU.out;rw [HNF.out,if_neg (Nat.lt_irrefl k),if_pos rfl] at how;obtain ⟨g,rfl⟩:=how.some' (by omega);obtain ⟨⟨u0,d0⟩,f0⟩:=how.cells (r:=0) hql (by omega);obtain ⟨⟨u1,d1⟩,f1⟩:=how.cells (r:=1) hql (by omega);obtain ⟨⟨u2,d2⟩,f2⟩:=how.cells (r:=2) hql (by omega);obtain ⟨⟨u3,d3⟩,f3⟩:=how.cells (r:=3) hql (by omega);obtain ⟨⟨u4,d4⟩,f4⟩:=how.cells (r:=4) hql (by omega);rw [Nat.add_zero] at d0 f0
     have hTT:43≠32:=by decide
     have hTB:43≠40:=by decide
     have hg5:=zF8 wr g q (.slice none 0 0) (.int .i64 (1000+(k:Int))) (.slice none 0 0) (.int .i64 0) (.int .i64 0)
     have hv5:=hv.grown hg5 (fun g' hg' e=>by
      have e':g'=g:=Option.some.inj e
      exact how.ne_own hv hTT g (by rfl) (by rw [hg',e']))
     have hb5:=hblk.grown hg5 (fun e=>how.ne_T hblk hTB (by rw [e];rfl));have hs5:=OwQ.set (m:=1000+(k:Int)) how hql;have hl5:=hl.set ha HU.out HNF.out.symm hg5 hs5;have hT5:=hT.grown hg5 (fun b e=> .inl ⟨k,_,HU.out,e⟩);have HA:=Lib.hid (And.intro hv5 (And.intro hl5 (And.intro hb5 hT5)))
     have iq:(q:Int)<(n:Int):=by omega
     clear how hg5 hs5 hv5 hb5 hl5 hT5 hv hl hblk hT hTT hTB;go_wp2_with fail;exact ⟨⟨q+1,by go_num,by omega,HA.out.1,HA.out.2.1,HA.out.2.2.1,HA.out.2.2.2⟩,by simp [intOf];omega⟩
    ·obtain rfl:q=n:=by omega
     go_wp2_with fail;go_roundw
     case rel=>exact ⟨k+1,by go_num,by omega,hv,(by rw [←HNF.out] at hl;exact hl.next),hblk,hT⟩
     case measure=>simp [intOf];omega
  ·obtain rfl:k=vs.length:=by omega
   have hl2:∀(j:Nat) (u:Value),vs[j]? =some u→OwQ wr u (f j) (1000+(j:Int)) (f j):=fun j u hj=>by
    have hjl:=(List.getElem?_eq_some_iff.mp hj).1
    have:=hl j u hj
    rwa [if_pos hjl] at this
   clear hl;go_wp2_with fail;obtain ⟨w3,rfl⟩:∃w3,w3=wr:=⟨_,rfl⟩;have hw2:=hT.size
   go_loopw [7,8] (fun gr i wr=>∃(k:Nat) (es:List Value),i= .int .i64 (k:Int)∧k≤vs.length∧es.length=5*k∧Own wr w3.heap.size 32 1 gr es.length es∧
    (∀(j:Nat) (e:Value),es[j]? =some e→(∃m,KOk wr (.slice none 0 0) 0 0 e m (j/5))∧∀(i:Nat) (u:Value),k≤i→vs[i]? =some u→∀g,e.ownBlock=some g→u.ownBlock≠some g)∧
    Own wr 0 32 1 (.slice A vs.length cv) vs.length vs∧(∀(j:Nat) (u:Value),vs[j]? =some u→OwQ wr u (f j) (1000+(j:Int)) (f j))∧(∀(j:Nat) (u:Value),vs[j]? =some u→∀g,u.ownBlock=some g→g<w3.heap.size)∧
    OBlk wr bb 40 [bv,.slice A vs.length cv]∧Turn (InL vs) w2 wr∧w3.heap.size≤wr.heap.size)
    (fun _ i _=>vs.length-(intOf i).toNat)
   case atStart=>exact ⟨0,[],rfl,Nat.zero_le _,rfl,Own.nil _ _ _ _,fun j e h=>by simp at h,hv,hl2,fun j u hj g hg=>(hl2 j u hj).lt g hg,hblk,hT,Nat.le_refl _⟩
   case round=>
    have hvlt:=fun g h=>(hv.lt g h).2;have HV:=Lib.hid hvlt;clear hvlt hv hl2 hT c0 hblk;obtain ⟨k,es,rfl,hk,hes,hgr,hE,hv,hl,hs,hblk,hT,hsz2⟩:=hrel;have c0:=hblk.cell' (j:=1) rfl
    by_cases hlt:k<vs.length
    ·obtain ⟨gL,rfl⟩:=hv.some' (by omega);have hku:vs[k]? =some vs[k]:=List.getElem?_eq_getElem hlt;have how:=hl k _ hku;have hcell:=hv.cells k _ hku;generalize vs[k]=u at*;have hm1:=hsz k hlt;have HU:=Lib.hid hku;have HES:=Lib.hid hes;obtain ⟨G,cG,rfl⟩:=hgr.slice;clear hku;rw [hes];clear hes;go_wp2_with fail;obtain ⟨wq,rfl⟩:∃wq,wq=wr:=⟨_,rfl⟩
     go_loopw [7,9,10] (fun gr x j wi=>∃(q:Nat) (es:List Value),j= .int .i64 (q:Int)∧q≤5∧InvK (InL vs) w2 w3.heap.size vs f (.slice (some ⟨gL,0,none⟩) vs.length cv) k q gr x es wi∧OBlk wi bb 40 [bv,.slice (some ⟨gL,0,none⟩) vs.length cv])
      (fun _ _ j _=>5-(intOf j).toNat)
     case atStart=>
      refine ⟨0,es,rfl,by omega,⟨HES.out,?_,how,?_,?_,?_,hv,fun j u _ hu=>hl j u hu,hs,hT,fun g hg=> .inl ⟨k,u,HU.out,hg⟩,hw2,hsz2⟩,hblk⟩
      ·rw [HES.out];rw [HES.out] at hgr;exact hgr
      ·exact fun j e hj=>⟨⟨(hE j e hj).1.choose,(hE j e hj).1.choose_spec.fresh (fun g hg=>(hE j e hj).2 k u (Nat.le_refl _) HU.out g hg)⟩,fun i u' hi hu'=>(hE j e hj).2 i u' (Nat.le_of_lt hi) hu'⟩
      ·intro u' hu';rw [HU.out] at hu';injection hu' with hu';subst hu';exact ⟨how,fun g _ _=>⟨Nat.le_refl _,rfl⟩⟩
      ·exact fun i u' hi hu' g hg hg'=>ha k i u u' (fun e=>hi e.symm) HU.out hu' g hg hg'.symm
     case round=>
      clear hgr hE hv hl hs hT hsz2 how hcell hblk c0;obtain ⟨q,es,rfl,hq,hI,hblk⟩:=hrel
      by_cases hql:q<5
      ·have hlen3:=hI.len
       have hel:es.length≤5000005:=by omega
       have hs2:=hI.size;obtain ⟨xs,hox,hmk⟩:=hI.ox;have HI:=Lib.hid hI;have HMK:=Lib.hid hmk;obtain ⟨n,hN⟩:∃n,n=f k+q:=⟨_,rfl⟩;rw [←hN] at hox;have HN:=Lib.hid hN
       have hnb:n≤1000000005:=by omega
       obtain ⟨X,cX,rfl⟩:=hox.slice;clear hlen3 hN hmk hI
       have iq:(q:Int)<5:=by omega
       go_upto_region 19 with (first
        |(at_builtin;refine iG rfl (.tmp 65) (.tmp 69) rfl _ n xs rfl hox (1000+(k:Int)) 43 rfl (by omega) ?_;intro x3 w4 ho3 hg3 hb3 hk3;obtain ⟨B3,c3,rfl⟩:=ho3.slice)
        |fail)
       have ho1:(Value.slice B3 (n+1) c3).oneCell'=true:=rfl
       have hTB:32≠40:=by decide
       have hTC:43≠40:=by decide
       have hblk3:=hblk.grown hg3 (fun e=>hox.ne_Tb hblk hTC e);have hgrn:=HI.out.gr3 _ hg3;have HOX:=Lib.hid hox;clear hTC hox
       go_upto_region 17 with (first
        |(at_builtin;refine mX rfl (.tmp 71) (.tmp 73) rfl w3.heap.size _ es rfl hgrn _ ho1 32 rfl (by omega) (Nat.le_trans hs2 hg3.size) ?_;intro gr4 w5 hgr4 hg4 _)
        |fail)
       have hblk4:=hblk3.grown hg4 (fun e=>hgrn.ne_Tb hblk3 hTB e);have hox:=HOX.out;have hN:=HN.out;subst hN;go_wp2_with fail;exact ⟨⟨q+1,_,by go_num,by omega,HI.out.step hql HV.out hox HMK.out ho3 hg3 hb3 hk3 hgr4 hg4,hblk4⟩,by simp [intOf];omega⟩
      ·obtain rfl:q=5:=by omega
       have i1:¬((5:Nat):Int)<5:=by omega
       have HI:=Lib.hid hI;have hlen3:=hI.len;clear hI;go_wp2_with fail;go_roundw
       case rel=>
        have hI:=HI.out;refine ⟨k+1,es,by go_num,by omega,by omega,hI.own,fun j e hj=>⟨⟨(hI.hE j e hj).1.choose,(hI.hE j e hj).1.choose_spec.fresh (fun g _ h=>by cases h)⟩,fun i u' hi hu'=>(hI.hE j e hj).2 i u' (by omega) hu'⟩,hI.hv,fun j u' hu'=> ?_,hI.hs,hblk,hI.ht,hI.size⟩
        by_cases e:j=k
        ·subst e;exact (hI.hk u' hu').1
        ·exact hI.hl j u' e hu'
       case measure=>simp [intOf];omega
    ·obtain rfl:k=vs.length:=by omega
     have hE2:∀(j:Nat) (e:Value),es[j]? =some e→∃m,OwQ wr e m (1000+((j/5:Nat):Int)) m:=fun j e hj=>by
      obtain ⟨⟨m,h1⟩,_⟩:=hE j e hj;exact ⟨m,h1.1⟩
     clear hE;obtain ⟨G,cG,rfl⟩:=hgr.slice
     have hsm:es.length≤5000000:=by omega
     have HE:=Lib.hid hE2;have HLK:=Lib.hid (And.intro hv fun (j:Nat) (u:Value) (hj:vs[j]? =some u)=>(hl j u hj).drop0);clear hE2 hes hl;go_wp2_with fail;obtain ⟨w5,rfl⟩:∃w5,w5=wr:=⟨_,rfl⟩
     go_loopw [11] (fun i wr=>∃j:Nat,i= .int .i64 (j:Int)∧j≤es.length∧wr=w5)
      (fun i _=>es.length-(intOf i).toNat)
     case atStart=>exact ⟨0,rfl,Nat.zero_le _,rfl⟩
     case round=>
      obtain ⟨j,rfl,hj,rfl⟩:=hrel
      by_cases hjl:j<es.length
      ·have hju:es[j]? =some es[j]:=List.getElem?_eq_getElem hjl;obtain ⟨m,how⟩:=HE.out j _ hju;obtain ⟨gG,rfl⟩:=hgr.some' (by omega);have hcell:=hgr.cells j _ hju;obtain ⟨B,cB,hform⟩:=how.slice
       have hmm:m≤9223372036854775807:=by
        obtain ⟨xs,h1,_⟩:=how;rcases h1.form with ⟨_,h⟩|⟨g,c',_,_,_,h2,h3⟩
        ·omega
        ·simp only [maxLen] at h3;omega
       rw [hform] at hcell how;clear hju hform;go_wp2_with fail;obtain ⟨w6,rfl⟩:∃w6,w6=wr:=⟨_,rfl⟩
       go_loopw [12] (fun i wr=>∃q:Nat,i= .int .i64 (q:Int)∧q≤m∧wr=w6)
        (fun i _=>m-(intOf i).toNat)
       case atStart=>exact ⟨0,rfl,Nat.zero_le _,rfl⟩
       case round=>
        obtain ⟨q,rfl,hq,rfl⟩:=hrel
        by_cases hql:q<m
        ·obtain ⟨g,rfl⟩:=how.some' (by omega);have hkd:=how.kind hql
         have iq:(q:Int)<(m:Int):=by omega
         have hdv:(j:Int)/5=((j/5:Nat):Int):=by omega
         have hbe:((1000+((j/5:Nat):Int)) !=(1000+((j/5:Nat):Int)))=false:=by simp
         generalize hjd:((j/5:Nat):Int)=jd at*;clear how hjd;go_wp2_with fail;exact ⟨⟨q+1,by go_num,by omega,trivial⟩,by simp [intOf];omega⟩
        ·obtain rfl:q=m:=by omega
         go_wp2_with fail;exact ⟨⟨j+1,by go_num,by omega,trivial⟩,by simp [intOf];omega⟩
      ·obtain rfl:j=es.length:=by omega
       go_wp2_with fail;go_ret;exact ⟨rfl,w2,HP2.out,hT,HLK.out.1,HLK.out.2⟩
theorem zI7 {xs:List (Value×List UInt8)} {j:Nat} (hj:j<xs.length):bkF (xs.mapIdx fun k p=>(p.1,mkL k p.2.length)) j=mkL j (bkF xs j).length:=by
 unfold bkF;simp [List.getD,hj]
theorem eE (xs:List (Value×List UInt8)):(xs.mapIdx fun k p=>(p.1,mkL k p.2.length)).map Prod.fst=xs.map Prod.fst:=by
 apply List.ext_getElem?;intro i;simp only [List.getElem?_map,List.getElem?_mapIdx,Option.map_map]
 cases xs[i]?<;>rfl
theorem kS {w0 w:World} {L:List Ent} {bb:Nat} {v lv:Value} {xs:List (Value×List UInt8)} {ls:List (Value×Nat)} (h:Sep w0 w (yJ 40 bb [lv] v xs::xR lv ls::L)) (hn:xs.length≤8388608) (hl:∀p∈xs,p.2.length≤1000000000)
 (hn2:ls.length≤1000000) (hl2:∀p∈ls,p.2≤1000000000):
 Calls Tryz.prog 16 #[.pointer (some ⟨bb,0,none⟩)] w fun e w'=>e= .returned (.bool true)∧∃xs':List (Value×List UInt8),xs'.length=xs.length∧Sep w0 w' (yJ 40 bb [lv] v xs'::xR lv ls::L):=by
 have hB:BookAt w 0 bb v (xs.map Prod.fst) (bkF xs) 40 [lv]:=h.head;have hLs:ListsAt w lv ls:=h.tail.head;obtain ⟨ys,hys⟩:∃ys,(xs.mapIdx fun k p=>(p.1,mkL k p.2.length))=ys:=⟨_,rfl⟩
 have hy1:ys.map Prod.fst=xs.map Prod.fst:=by rw [←hys];exact eE xs
 have hy2:ys.length=xs.length:=by rw [←hys];simp
 refine (zAE (fun w1=>Sep w0 w1 (yJ 40 bb [lv] v ys::xR lv ls::L)) lv (ls.map Prod.fst) (lnF ls) bb w (fun w1 hS=> ?_) hLs.apart (by simpa using hn2) (fun j hj=> ?_) ?_).mono ?_
 ·have hL1:ListsAt w1 lv ls:=hS.tail.head;refine ⟨v,(show BookAt w1 0 bb v _ _ _ _ from hS.head).blk,hL1.own,fun j u hj=> ?_⟩
  have:=(hL1.each j u hj).any (1000+(j:Int))
  simpa using this
 ·rw [List.length_map] at hj
  have e:lnF ls j=ls[j].2:=by simp [lnF,List.getD,hj]
  rw [e];exact hl2 _ (List.getElem_mem hj)
 ·refine (tA (T:=40) (rest:= [lv]) (by decide) (by decide) v _ _ 0 bb w hB (by simpa using hn) (fun j hj=> ?_)).mono ?_
  ·rw [List.length_map] at hj
   have e:bkF xs j=xs[j].2:=by simp [bkF,List.getD,hj]
   rw [e];exact hl _ (List.getElem_mem hj)
  ·rintro e w1 ⟨rfl,ht,hO⟩;have hbb:¬InL (xs.map Prod.fst) bb:=fun ⟨j,u,hj,hu⟩=>OwB.ne_blk (hB.each j u hj) hB.blk (by decide) hu.symm;refine ⟨rfl,h.upd (ht.mono fun b hb=> .inr (.inr hb)) (E':=yJ 40 bb [lv] v ys) ⟨hB.blk.turn ht hbb,?_,?_,?_⟩ (fun g hg=> ?_)⟩
   ·rw [hy1];exact Own.heap hB.own (fun g hg=>ht.block g (Own.lt hB.own g hg).2 (fun ⟨j,u,hj,hu⟩=>OwB.ne_own (hB.each j u hj) hB.own hg hu.symm))
   ·intro j u hj;rw [hy1] at hj;have hjl:=(List.getElem?_eq_some_iff.1 hj).1;rw [List.length_map] at hjl;rw [←hys,zI7 hjl];exact hO j u hj
   ·rw [hy1];exact hB.apart
   ·have hg':g=bb∨v.ownBlock=some g∨InL (xs.map Prod.fst) g:=by
     have h0:g=bb∨v.ownBlock=some g∨InL (ys.map Prod.fst) g:=hg
     rwa [hy1] at h0
    exact ⟨.inl hg',by have h1:=h.lt g hg';have h2:=ht.size;omega⟩
 ·rintro e w' ⟨rfl,w1,hS,ht,hv,he⟩;refine ⟨rfl,ys,hy2,Sep.sw1 ((Sep.sw1 hS).upd (ht.mono fun b hb=> .inr hb) (E':=xR lv ls) ⟨hv,he,hLs.apart⟩ (fun g hg=>⟨.inl hg,?_⟩))⟩;have h1:=(Sep.sw1 hS).lt g hg;have h2:=ht.size;omega
def lkE (g:Nat) (l:List UInt8):Ent:=zB (.slice (some ⟨g,0,none⟩) (l.length+9) (l.length+9)) (l++qK)
theorem mK {gk gv:Nat} {c:PC} {L:List Ent} (h1:lkE gk c.key∈L) (h2:lkE gv c.val∈L) (hr:fH c) (s1:c.key.length≤140737488355328) (s2:c.val.length≤140737488355328):XIn L (vG gk gv c):=
 ⟨⟨_,h1,fun _ h=>tN h rfl⟩,⟨_,h2,fun _ h=>tN h rfl⟩,hr.1,hr.2.1,hr.2.2,s1,s2⟩
theorem t6 {w0 w:World} {L:List Ent} (h:Sep w0 w L) (x:CV) (hx:x.ok w) (s1:x.c.key.length≤140737488355328) (s2:x.c.val.length≤140737488355328):
 Calls Tryz.prog 46 #[zJ x] w fun e w'=>∃gk gv,e= .returned (zJ (vG gk gv x.c))∧Sep w0 w' (lkE gk x.c.key::lkE gv x.c.val::L):=by
 refine (lD x w hx s1 s2).mono ?_;rintro e w' ⟨gk,gv,rfl,hl,hb⟩;refine ⟨gk,gv,rfl,((h.below hb).cons (E:=lkE gv x.c.val) (OwB.low hl.v (Nat.zero_le _)) (fun g hg=>(Own.lt hl.v g hg).2) (fun A hA g hg hAg=> ?_)).cons (E:=lkE gk x.c.key) (OwB.low hl.k (Nat.zero_le _)) (fun g hg=>(Own.lt hl.k g hg).2) (fun A hA g hg hAg=> ?_)⟩
 ·have h3:=(h.each A hA).2 g hAg;have h4:=(Own.lt hl.v g hg).1;omega
 ·rcases List.mem_cons.1 hA with rfl|hA
  ·have e1:gk=g:=Option.some.inj hg;have e2:gv=g:=Option.some.inj hAg
   have:=hl.lt
   omega
  ·have h3:=(h.each A hA).2 g hAg;have h4:=(Own.lt hl.k g hg).1;omega
theorem gR {w0 w:World} {L:List Ent} {gk gv:Nat} (x:CV) (h:Sep w0 w (lkE gk x.c.key::lkE gv x.c.val::L)) (hx:XIn L x):
 Calls Tryz.prog 47 #[zJ (vG gk gv x.c),zJ x] w fun e w'=>e= .returned (.bool true)∧Sep w0 w' L:=by
 have hx0:=hx.ok h (fun E hE=>by simp [hE]);obtain ⟨A,ca,B,cb,key,ck,val,pg,ct,rfl,-,-⟩:=CV.form hx0;have hS1:=(h.alloc 43 [.slice (some ⟨gk,0,none⟩) key.length (key.length+9),.int .i64 ck,.slice (some ⟨gv,0,none⟩) val.length (val.length+9),.int .i64 pg,.int .i64 ct]).alloc 43 [.slice A key.length ca,.int .i64 ck,.slice B val.length cb,.int .i64 pg,.int .i64 ct];rw [show (w.alloc (.cells [.slice (some ⟨gk,0,none⟩) key.length (key.length+9),.int .i64 ck,.slice (some ⟨gv,0,none⟩) val.length (val.length+9),.int .i64 pg,.int .i64 ct].toArray 43)).heap.size=w.heap.size+1 from World.size_alloc _ _] at hS1;have HX:=Lib.hid hx;simp only at hS1;unfold zJ vG;simp only;clear hx hx0 h;go_enter Tryz.func47,Tryz.ntmps47;go_upto_region 1 with (fail);generalize (w.alloc (.cells #[.slice (some ⟨gk,0,none⟩) key.length (key.length+9),.int .i64 ck,.slice (some ⟨gv,0,none⟩) val.length (val.length+9),.int .i64 pg,.int .i64 ct] 43)).alloc (.cells #[.slice A key.length ca,.int .i64 ck,.slice B val.length cb,.int .i64 pg,.int .i64 ct] 43)=w2 at*;have hcq:OBlk w2 (w.heap.size+1) 43 [.slice A key.length ca,.int .i64 ck,.slice B val.length cb,.int .i64 pg,.int .i64 ct]:=hS1.head;have hcp:OBlk w2 w.heap.size 43 [.slice (some ⟨gk,0,none⟩) key.length (key.length+9),.int .i64 ck,.slice (some ⟨gv,0,none⟩) val.length (val.length+9),.int .i64 pg,.int .i64 ct]:=hS1.tail.head;obtain ⟨c0,c1,c2,c3,c4⟩:=zC hcp;obtain ⟨d0,d1,d2,d3,d4⟩:=zC hcq;have hx1:=HX.out.ok hS1 (fun E hE=>by simp [hE])
 have hal:=pT (vb:= .slice A key.length ca) (l:=key) (g:=gk) (n:=key.length) (Sep.sw2 hS1) rfl hx1.k HX.out.s1;clear hcq hcp hx1
 go_upto_region 3 with (first
  |(go_at_call 88;(with_reducible refine hal.mono ?_);rintro e w4 ⟨rfl,hS4⟩)
  |fail)
 clear c0 c1 c2 c3 c4 d0 d1 d2 d3 d4 hal hS1;have hcq:OBlk w4 (w.heap.size+1) 43 [.slice A key.length ca,.int .i64 ck,.slice B val.length cb,.int .i64 pg,.int .i64 ct]:=hS4.head;have hcp:OBlk w4 w.heap.size 43 [.slice (some ⟨gk,0,none⟩) key.length (key.length+9),.int .i64 ck,.slice (some ⟨gv,0,none⟩) val.length (val.length+9),.int .i64 pg,.int .i64 ct]:=hS4.tail.head;obtain ⟨c0,c1,c2,c3,c4⟩:=zC hcp;obtain ⟨d0,d1,d2,d3,d4⟩:=zC hcq;have hx1:=HX.out.ok hS4 (fun E hE=>by simp [hE]);have hal:=pT (vb:= .slice B val.length cb) (l:=val) (g:=gv) (n:=val.length) (Sep.sw2 hS4) rfl hx1.v HX.out.s2;clear hcq hcp hx1
 go_wp2_with (first
  |(go_at_call 88;(with_reducible refine hal.mono ?_);rintro e w5 ⟨rfl,hS5⟩)
  |fail)
 go_ret;exact ⟨rfl,hS5.tail.tail⟩
structure OpX where
 kind:Int
 at_:Int
 x:CV
 kv:Value
 key:List UInt8
instance :Inhabited OpX:=⟨⟨0,0,default,.slice none 0 0,[]⟩⟩
def OpX.cells (o:OpX):List Value:= [.int .i64 o.kind,.int .i64 o.at_,o.x.kv,.int .i64 o.x.c.kind,o.x.vv,.int .i64 o.x.c.page,.int .i64 o.x.c.count,o.kv]
def opV (o:OpX):Value:= .agg #[.int .i64 o.kind,.int .i64 o.at_,o.x.kv,.int .i64 o.x.c.kind,o.x.vv,.int .i64 o.x.c.page,.int .i64 o.x.c.count,o.kv]
section
variable {w w0:World} {g:Nat} {T:TypeId} {a0 a1 a2 a3 a4 a5 a6 a7:Value} {L:List Ent}
theorem vV (h:OBlk w g T [a0,a1,a2,a3,a4,a5,a6,a7]):
 w.cell? ⟨g,0,none⟩=some a0∧w.cell? ⟨g,1,none⟩=some a1∧w.cell? ⟨g,2,none⟩=some a2∧w.cell? ⟨g,3,none⟩=some a3∧w.cell? ⟨g,4,none⟩=some a4∧w.cell? ⟨g,5,none⟩=some a5∧w.cell? ⟨g,6,none⟩=some a6∧w.cell? ⟨g,7,none⟩=some a7:=
 ⟨h.cell 0,h.cell 1,h.cell 2,h.cell 3,h.cell 4,h.cell 5,h.cell 6,h.cell 7⟩
end
theorem RdIn.app {L1 L2:List Ent} {v:Value} {l:List UInt8} (h:RdIn L2 v l):RdIn (L1++L2) v l:=by
 obtain ⟨E,hE,h⟩:=h;exact ⟨E,List.mem_append_right _ hE,h⟩
end Go.Proofs.YtfcnkpofcekmgaaGreat
