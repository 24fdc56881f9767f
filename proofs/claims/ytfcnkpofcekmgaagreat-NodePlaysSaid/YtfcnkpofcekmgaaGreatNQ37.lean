/- Texts joined. -/
import Derived.Test.YtfcnkpofcekmgaaGreatNQ36
import Derived.Below
import Derived.ChangeSame
import Derived.ProofKit
import Derived.OpenShut
set_option maxRecDepth 100000
set_option maxHeartbeats 64000000
namespace Go.Proofs.YtfcnkpofcekmgaaGreat
open Go.RowKit
def nA:PC:=⟨[97],1,[121],0,0⟩
def nB:PC:=⟨[98],1,[120],0,0⟩
def n0:KP:=⟨[],[],0⟩
theorem zJU:qT 2 512 n0 0 0 nB=0:=by decide
theorem zHU:(jK 2 512 n0 0 0 nB).l= [nB]:=by
 show gI 2 512 [] 0 0 nB=_
 rw [dF (show vU 2 512 [] 0 0 nB=0 by decide)];rfl
theorem zJ9:qT 2 512 (jK 2 512 n0 0 0 nB) 0 0 nA=0:=by
 show vU 2 512 (jK 2 512 n0 0 0 nB).l 0 0 nA=0
 rw [zHU];decide
theorem zHS:(jK 2 512 (jK 2 512 n0 0 0 nB) 0 0 nA).l= [nA,nB]:=by
 show gI 2 512 (jK 2 512 n0 0 0 nB).l 0 0 nA=_
 rw [zHU,dF (show vU 2 512 [nB] 0 0 nA=0 by decide)];rfl
theorem zBJ:z6 [98] [nA,nB]=1∧isF [98] [nA,nB]=true:=by decide
theorem zID:zAD 2 (jK 2 512 (jK 2 512 n0 0 0 nB) 0 0 nA)=26:=by
 show zW (jK 2 512 (jK 2 512 n0 0 0 nB) 0 0 nA).l=26
 rw [zHS];rfl
theorem zHT:fJ 2 512 n0 0 0 nA=0:=by
 show yR 2 512 [] 0 0 nA=0
 unfold yR;rw [if_neg (by decide)];unfold k8;have h:zS 2 (zX [] (0:Int).toNat 0 nA)≤512:=zC4 (kind:=2) (l:= [nA]) (P:=512) (by omega) (by omega) (by omega) (by decide) (by decide);rw [if_neg (by decide),if_neg (by decide),if_neg (by omega)]
theorem zJ4:(gX 2 512 n0 0 0 nA).l.length=1:=by
 show (jC 2 512 n0 0 0 nA).l.length=1
 unfold jC;rw [if_pos (show yR 2 512 n0.l 0 0 nA=0 from zHT)];unfold pW xU
 split<;>rfl
theorem nd_I1:NdI1 2 512 n0:=⟨List.Pairwise.nil,by simp [n0],by decide⟩
theorem zJ6:NdI2 2 512 n0:=mZ (kind:=2) (P:=512) (l:= []) List.Pairwise.nil (by simp) (by decide)
theorem nP {w0 w:World} {L:List Ent} (hS:Sep w0 w L) (key val:List UInt8) (hk:key.length≤1000) (hl:val.length≤1000):Calls Tryz.prog 37 #[.string ⟨key.toArray⟩,.string ⟨val.toArray⟩] w fun e w'=>
 ∃y:CV,e= .returned (zJ y)∧y.c=⟨key,1,val,0,0⟩∧Sep w0 w' (zB y.kv y.c.key::zB y.vv y.c.val::L):=by
 have hS1:=hS.alloc 43 [.slice none 0 0,.int .i64 0,.slice none 0 0,.int .i64 0,.int .i64 0];clear hS;go_enter Tryz.func37,Tryz.ntmps37;go_upto_region 1 with (fail);generalize hW1:w.alloc (.cells #[.slice none 0 0,.int .i64 0,.slice none 0 0,.int .i64 0,.int .i64 0] 43)=w1 at*;generalize w.heap.size=g at*;clear hW1
 have z1:(⟨key.toArray⟩:ByteArray).size=key.length:=by simp [ByteArray.size]
 have z2:(⟨val.toArray⟩:ByteArray).size=val.length:=by simp [ByteArray.size]
 obtain ⟨c2,w2,q2,ho2,hb2,-⟩:=mO w1 ⟨key.toArray⟩ (by rw [z1];simp only [maxLen];omega);obtain ⟨c3,w3,q3,ho3,hb3,-⟩:=mO w2 ⟨val.toArray⟩ (by rw [z2];simp only [maxLen];omega);rw [z1] at q2 ho2;rw [z2] at q3 ho3;have ho2:OwB w2 w1.heap.size (.slice (some ⟨w1.heap.size,0,none⟩) key.length c2) key:=ho2;have ho3:OwB w3 w2.heap.size (.slice (some ⟨w2.heap.size,0,none⟩) val.length c3) val:=ho3;have hS2:=hS1.bytes hb2 ho2 (Nat.le_refl _);have hS3:=(hS2.bytes hb3 ho3 (Nat.le_refl _)).sw2;generalize w1.heap.size=g2 at*;generalize w2.heap.size=g3 at*;obtain ⟨y0,y1,y2,y3,y4⟩:=zC hS3.blk;obtain ⟨f0,f1,f2,f3,f4⟩:=xJ hS3.blk;have HS:=Lib.hid (hS3.set5 (.slice (some ⟨g2,0,none⟩) key.length c2) (.int .i64 1) (.slice (some ⟨g3,0,none⟩) val.length c3) (.int .i64 0) (.int .i64 0));clear hS1 hS2 hS3 ho2 ho3 hb2 hb3 z1 z2;go_wp2_with fail;obtain ⟨e0,e1,e2,e3,e4⟩:=zC HS.out.blk;refine bodyPost_ret (v:= .agg #[.slice (some ⟨g2,0,none⟩) key.length c2,.int .i64 1,.slice (some ⟨g3,0,none⟩) val.length c3,.int .i64 0,.int .i64 0]) ?_ rfl ?_
 ·simp [results,Tryz.results37,go_sem,e0,e1,e2,e3,e4]
 ·exact ⟨⟨.slice (some ⟨g2,0,none⟩) key.length c2,.slice (some ⟨g3,0,none⟩) val.length c3,⟨key,1,val,0,0⟩⟩,rfl,rfl,HS.out.tail.sw1⟩
theorem zGW (w:World) (C:Array Value) (n c g:Nat) (hg:g=w.heap.size):(convert 41 41 (.slice (some ⟨g,0,none⟩) n c)).run Tryz.prog (w.alloc (.cells C 5))= .ok (.slice (some ⟨g,0,none⟩) n c) (w.alloc (.cells C 5 (C.size,C.size+1))):=by
 subst hg;exact Lib.run_convert_bytes_const w _ _ C n c Tryz.underlying41 Tryz.underlying5
theorem RdB.litm (w:World) (l:List UInt8) (cells:Array Value) (T:TypeId) (fr:Nat×Nat) (n:Nat) (h:cells=(bvs l).toArray) (hn:l.length=n) (hm:n≤maxLen):RdB (w.alloc (.cells cells T fr)) (.slice (some ⟨w.heap.size,0,none⟩) n n) l:=by
 subst h;subst hn;refine ⟨_,_,rfl,Nat.le_refl _,hm,fun j hj=>⟨_,rfl,?_⟩⟩;rw [vH,Nat.zero_add,World.cell?_alloc_mark]
 have:=mD l j hj
 simpa using this
def zKO (g n:Nat) (l:List UInt8):Ent:=
 ⟨fun b=>b=g,fun w=>RdB w (.slice (some ⟨g,0,none⟩) n n) l,fun {w w'} h k=>by
  obtain ⟨A,c,hv,h1,h2,h3⟩:=k;refine ⟨A,c,hv,h1,h2,fun j hj=> ?_⟩;obtain ⟨ad,hA,hc⟩:=h3 j hj;refine ⟨ad,hA,?_⟩
  obtain rfl:(⟨g,0,none⟩:Addr)=ad:=by
   injection hv with hv1;rw [←hv1] at hA;injection hA
  rw [vH] at hc⊢;rw [World.cell?_of_block (h g rfl)]
  exact hc⟩
theorem Sep.lit {w0 w:World} {L:List Ent} (h:Sep w0 w L) (l:List UInt8) (cells:Array Value) (T:TypeId) (fr:Nat×Nat) (n:Nat) (hc:cells=(bvs l).toArray) (hn:l.length=n) (hm:n≤maxLen):Sep w0 (w.alloc (.cells cells T fr)) (zKO w.heap.size n l::L):=
 h.new ((Below.refl _ _).alloc (Nat.le_refl _) _) (RdB.litm w l cells T fr n hc hn hm) (fun g hg=>by have hg':g=w.heap.size:=hg;rw [World.size_alloc];omega)
theorem XIn.own {L:List Ent} {y:CV} (h1:zB y.kv y.c.key∈L) (h2:zB y.vv y.c.val∈L) (hr:fH y.c) (s1:y.c.key.length≤140737488355328) (s2:y.c.val.length≤140737488355328):XIn L y:=
 ⟨⟨_,h1,fun _ h=>OwB.rd h⟩,⟨_,h2,fun _ h=>OwB.rd h⟩,hr.1,hr.2.1,hr.2.2,s1,s2⟩
theorem zKD:fH nA:=by refine ⟨?_,?_,?_⟩<;>(show _≤_∧_≤_;simp only [nA];omega)
theorem zKR:fH nB:=by refine ⟨?_,?_,?_⟩<;>(show _≤_∧_≤_;simp only [nB];omega)
section
variable {w0 w:World} {L:List Ent} {p q:Nat}
theorem zFA {s:KP} {y:CV} {c:PC} (hP:NdP1 w0 w L p 512 2 s) (hI:NdI1 2 512 s) (hy:y.c=c) (h1:zB y.kv y.c.key∈L) (h2:zB y.vv y.c.val∈L) (hr:fH c) (s1:c.key.length≤10) (s2:c.val.length≤10) (hz:qT 2 512 s 0 0 c=0):
 Calls Tryz.prog 201 #[.pointer (some ⟨p,0,none⟩),.int .i64 0,zJ y] w fun e w'=>e= .returned (.int .i64 0)∧NdP1 w0 w' L p 512 2 (jK 2 512 s 0 0 c):=by
 subst hy;have h:=zFP hP hI (.inl rfl) (by omega) y (XIn.own h1 h2 hr (by omega) (by omega)) 0 (by unfold yE;omega);rw [hz] at h;exact h
theorem zGJ {y:CV} {c:PC} (hP:NdP2 w0 w L p 512 2 n0) (hy:y.c=c) (h1:zB y.kv y.c.key∈L) (h2:zB y.vv y.c.val∈L) (hr:fH c) (s1:c.key.length≤10) (s2:c.val.length≤10) (hz:fJ 2 512 n0 0 0 c=0):
 Calls Tryz.prog 219 #[.pointer (some ⟨p,0,none⟩),.int .i64 0,zJ y] w fun e w'=>e= .returned (.int .i64 0)∧NdP2 w0 w' L p 512 2 (gX 2 512 n0 0 0 c):=by
 subst hy;have h:=zFY hP zJ6 (.inl rfl) (by omega) y (XIn.own h1 h2 hr (by omega) (by omega)) 0 (by unfold yE;omega);rw [hz] at h;exact h
end
theorem zG4 {w0 w:World} {L:List Ent} {v:Value} {s:KP} (hS:Sep w0 w (zB v (yV 2 s.l 512)::L)) (hI:NdI1 2 512 s):
 Calls Tryz.prog 12 #[v] w fun e w'=>∃p,e= .returned (.tuple #[sI p,.int .i64 0])∧NdP1 w0 w' (zB v (yV 2 s.l 512)::L) p 512 2 ⟨s.l,[],0⟩:=by
 have hll:(yV 2 s.l 512).length=512:=kF hI.size;have ho:OwB w 0 v (yV 2 s.l 512):=hS.head;have hpl:y8 (yV 2 s.l 512) 2 s.l:=⟨by rw [hll];decide,by decide,by rw [hll];exact Wk.enc hI,by rw [hll]⟩
 have he:egB (yV 2 s.l 512)=1:=by
  unfold egB
  have h:(yV 2 s.l 512).getD 1 0=1:=by unfold yV kO;rfl
  rw [h];rfl
 refine (zET hS ho.rd (by omega) he).mono ?_;rintro e w' (⟨p,kind,l,hp,rfl,hN⟩|⟨hn,-,-⟩)
 ·obtain ⟨h1,h2⟩:=kR hp;obtain ⟨h3,h4⟩:=kR hpl;rw [h1] at h3;injection h3 with h3;subst h3;rw [h4] at h2;subst h2;rw [hll] at hN;exact ⟨p,rfl,hN⟩
 ·exact absurd hpl (hn _ _)
theorem NdP1.drop2 {w0 w:World} {a b c d:Ent} {p P:Nat} {kind:Int} {s:KP} (h:NdP1 w0 w ([a,b,c]++ [d]) p P kind s):NdP1 w0 w (c:: [d]) p P kind s:=by
 obtain ⟨E,hS,B⟩:=h.sep;exact B _ _ (Sep.pick (L:= [_,_,_,_]) [0,3] (by decide) rfl hS)
theorem NdP1.drop2' {w0 w:World} {a b c d:Ent} {p P:Nat} {kind:Int} {s:KP} (h:NdP1 w0 w ([a,b]++ [c,d]) p P kind s):NdP1 w0 w (c:: [d]) p P kind s:=by
 obtain ⟨E,hS,B⟩:=h.sep;exact B _ _ (Sep.pick (L:= [_,_,_,_]) [0,3] (by decide) rfl hS)
theorem NdP2.drop2 {w0 w:World} {a b c d:Ent} {p P:Nat} {kind:Int} {s:KP} (h:NdP2 w0 w ([a,b,c]++ [d]) p P kind s):NdP2 w0 w (c:: [d]) p P kind s:=by
 obtain ⟨E,hS,B⟩:=NdP2.sep h;exact B _ _ (Sep.pick (L:= [_,_,_,_]) [0,3] (by decide) rfl hS)
theorem cE (w:World):Calls Tryz.prog 7 #[] w fun e w'=>e= .returned (.bool true)∧Below w.heap.size w w':=by
 have kc:=fun (w:World) (C:Array Value) (n c g:Nat) (hg:g=w.heap.size)=>zGW w C n c g hg;have hmf:∀(fn:Fn) (first cap:Array Value) (w:World),(Instr.makeFunc fn first cap).run Tryz.prog w= .ok (.func fn first cap) w:=fun _ _ _ _=>rfl;have i1:=rK;have i2:=zG7;have i3:=o9;have i4:=tQ;have i5:=o7;have i6:=iB;have i7:=rV;have i8:=zGQ;have i9:=lK;go_enter Tryz.func7,Tryz.ntmps7
 go_upto_region 2 with (first
  |(go_at_call 8;(with_reducible refine (oT 3 2 512 (by decide) (by decide) _).mono ?_);rintro e w1 ⟨rfl,hw1⟩)
  |fail)
 have hn1:=oO (kind:=2) (P:=512) ((Sep.start w).below hw1) (by decide) (by decide);rw [show ((512:Nat):Int)=512 from rfl] at hn1
 go_upto_region 3 with (first
  |(go_at_call 8;(with_reducible refine hn1.mono ?_);rintro e w2 ⟨p,rfl,hP⟩)
  |fail)
 obtain ⟨E1,hS2,B1⟩:=hP.sep;have hn2:=iQ (kind:=2) (P:=512) hS2 (by decide) (by decide);rw [show ((512:Nat):Int)=512 from rfl] at hn2;clear hn1 hP hw1
 go_upto_region 4 with (first
  |(go_at_call 8;(with_reducible refine hn2.mono ?_);rintro e w3 ⟨q,rfl,hQ⟩)
  |fail)
 obtain ⟨E2,hS3,B2⟩:=hQ.sep;have hv:=nP hS3.drew [98] [120] (by simp) (by simp);have hI1:=fun (W:World) (y:CV) (hy:y.c=nB) (h:Sep w W (zB y.kv y.c.key::zB y.vv y.c.val::E2:: [E1,yK w]))=>zFA (s:=n0) (B1 _ _ (h.sw [_,_,_])) nd_I1 hy (by simp) (by simp) zKR (by decide) (by decide) zJU;have HI1:=Lib.hid hI1;have hI2:=fun (W:World) (M:List Ent) (y:CV) (hy:y.c=nA) (h1:zB y.kv y.c.key∈M) (h2:zB y.vv y.c.val∈M) (h:Sep w W (E2::M))=>zGJ (B2 _ _ h) hy h1 h2 zKD (by decide) (by decide) zHT;have HI2:=Lib.hid hI2;clear hI1 hI2;clear hn2 hQ hS2 B1 B2;go_upto_region 6 with (fail)
 go_cut [7] (fun z wx=>z= .int .i64 0∧NdP1 w wx (E2:: [yK w]) p 512 2 (jK 2 512 n0 0 0 nB))
 case first=>
  go_region_held3 (fun _=>True) (exact trivial) (first
   |(go_at_call 37;(with_reducible refine hv.mono ?_);rintro e w4 ⟨y,rfl,hy0,hS4⟩;have hy:y.c=nB:=hy0)
   |(go_at_call 201;(with_reducible refine (HI1.out _ y hy hS4).mono ?_);rintro e w5 ⟨rfl,hP5⟩;have hP6:=NdP1.drop2 hP5)
   |fail)
  all_goals
   go_wp2_with fail;go_meet;exact ⟨rfl,hP6⟩
 case rest=>
 obtain ⟨rfl,hP5⟩:=hcut;obtain ⟨E3,hS5,B3⟩:=hP5.sep;have hv:=nP hS5.drew [97] [121] (by simp) (by simp);have hI3:=fun (W:World) (y:CV) (hy:y.c=nA) (h:Sep w W (zB y.kv y.c.key::zB y.vv y.c.val::E3:: [E2,yK w]))=>zFA (s:=jK 2 512 n0 0 0 nB) (B3 _ _ (h.sw [_,_])) (nd_I1.ins 0 (by omega) nB) hy (by simp) (by simp) zKD (by decide) (by decide) zJ9;have HI3:=Lib.hid hI3;clear hP5 B3 HI1 hS3 hI3;go_upto_region 7 with (fail)
 go_cut [8] (fun z wx=>z= .int .i64 0∧NdP1 w wx (E2:: [yK w]) p 512 2 (jK 2 512 (jK 2 512 n0 0 0 nB) 0 0 nA))
 case first=>
  go_region_held3 (fun _=>True) (exact trivial) (first
   |(go_at_call 37;(with_reducible refine hv.mono ?_);rintro e w6 ⟨y2,rfl,hy0,hS7⟩;have hy2:y2.c=nA:=hy0)
   |(go_at_call 201;(with_reducible refine (HI3.out _ y2 hy2 hS7).mono ?_);rintro e w7 ⟨rfl,hP7⟩;have hP8:=NdP1.drop2' hP7)
   |fail)
  all_goals
   go_wp2_with fail;go_meet;exact ⟨rfl,hP8⟩
 case rest=>
 obtain ⟨rfl,hP7⟩:=hcut;have hI7:NdI1 2 512 (jK 2 512 (jK 2 512 n0 0 0 nB) 0 0 nA):=(nd_I1.ins 0 (by omega) nB).ins 0 (by omega) nA;have hl7:=zHS;have hu7:=zID;generalize jK 2 512 (jK 2 512 n0 0 0 nB) 0 0 nA=s2 at*;obtain ⟨E4,hS9,B4⟩:=hP7.sep;have HB4:=Lib.hid B4;have HI7:=Lib.hid hI7;have HL7:=Lib.hid hl7;have HU7:=Lib.hid hu7;have hS10:=hS9.lit [98] #[.int .u8 98] 5 (1,2) 1 rfl rfl (by decide);have hfi:=zEC (B4 _ _ (hS10.sw1)) hI7 (by omega) (.slice (some ⟨wc.heap.size,0,none⟩) 1 1) [98] (show RdB _ _ _ from hS10.head);rw [hl7,zBJ.1,zBJ.2,show ((1:Nat):Int)=1 from rfl] at hfi;clear hP7 hS9 B4 HI3 hv hS5 hI7 hl7 hu7
 go_upto_region 9 with (first
  |(go_at_call 200;(with_reducible refine hfi.mono ?_);rintro e w8 ⟨rfl,hw8⟩)
  |fail)
 have hS11:=(hS10.below hw8).tail;have hv:=nP hS11.drew [97] [121] (by simp) (by simp);clear hS10 hfi hw8;go_upto_region 9 with (fail)
 go_cut [11] (fun z wx=>z= .int .i64 0∧NdP2 w wx (E4:: [yK w]) q 512 2 (gX 2 512 n0 0 0 nA))
 case first=>
  go_region_held3 (fun _=>True) (exact trivial) (first
   |(go_at_call 37;(with_reducible refine hv.mono ?_);rintro e w9 ⟨y3,rfl,hy0,hS12⟩;have hy3:y3.c=nA:=hy0)
   |(go_at_call 219;(with_reducible refine (HI2.out _ _ y3 hy3 (by simp) (by simp) (hS12.sw [_,_,_])).mono ?_);rintro e w10 ⟨rfl,hQ10⟩;have hQ11:=NdP2.drop2 hQ10)
   |fail)
  all_goals
   go_wp2_with fail;go_meet;exact ⟨rfl,hQ11⟩
 case rest=>
 obtain ⟨rfl,hQ10⟩:=hcut;obtain ⟨E5,hS13,B5⟩:=hQ10.sep;have HB5:=Lib.hid B5;have hby:=zE6 (HB4.out _ _ hS13.sw1) HI7.out (by decide) (by decide);clear hv hS11 hQ10 B5 HI2 hS13
 go_upto_region 11 with (first
  |(go_at_call 198;(with_reducible refine hby.mono ?_);rintro e w11 ⟨bv,rfl,hP11⟩;obtain ⟨E6,hS14,B6⟩:=hP11.sep)
  |(go_at_call 12;(with_reducible refine (zG4 (hS14.sw1) HI7.out).mono ?_);rintro e w12 ⟨o,rfl,hO12⟩)
  |fail)
 obtain ⟨E7,hS15,B7⟩:=hO12.sep;have hS16:Sep w w12 (E7::E6::E5:: [yK w]):=Sep.pick (L:= [_,_,_,_,_]) [0,2,3,4] (by decide) rfl hS15;have hus:=zF1 (B6 _ _ hS16.sw1);have hl1:=uV (B7 _ _ hS16);have hl2:=zAM (HB5.out _ _ hS16.sw2);rw [HU7.out,show ((26:Nat):Int)=26 from rfl] at hus;rw [HL7.out,show (([nA,nB]:List PC).length:Int)=2 from rfl] at hl1;rw [zJ4,show ((1:Nat):Int)=1 from rfl] at hl2;have hmk:=fun W=>iJ 512 (by decide) W;have hmv:=fun W=>rN 512 (by decide) W;rw [show ((512:Nat):Int)=512 from rfl,show ((512/8:Nat):Int)=64 from rfl] at hmk;rw [show ((512:Nat):Int)=512 from rfl,show ((512/16*3:Nat):Int)=96 from rfl] at hmv;have hB:=hS16.belowOld (_v:=w) (by simp);clear hby hP11 hS14 B6 hO12 hS15 B7 hS16 HB4 HB5 HL7 HU7 HI7
 go_wp2_with (first
  |(go_at_call 206;(with_reducible refine hus.mono ?_);rintro e w13 ⟨rfl,rfl⟩)
  |(go_at_call 203;(with_reducible refine hl1.mono ?_);rintro e w13 ⟨rfl,rfl⟩)
  |(go_at_call 221;(with_reducible refine hl2.mono ?_);rintro e w13 ⟨rfl,rfl⟩)
  |(go_at_call 33;(with_reducible refine (hmk _).mono ?_);rintro e w13 ⟨rfl,rfl⟩)
  |(go_at_call 35;(with_reducible refine (hmv _).mono ?_);rintro e w13 ⟨rfl,rfl⟩)
  |fail)
 go_ret;exact ⟨rfl,hB⟩
end Go.Proofs.YtfcnkpofcekmgaaGreat
namespace Go.Proofs.YtfcnkpofcekmgaaGreat
open Go.RowKit Go.WideShapes Go.ChangeShapes
section
variable {H:Type} {enc:TypeId×Value→H} {P:Program}
theorem tC {f:Func} {s:ChangeSpec} {apart fresh handsOn again:Bool} {W W':World} {args:Array Value} {v:Value} {ds gs:List (DataW H)} {before pa pv:List MemPlace}
 (hW:DataW.Whole enc P f.params.toList s.vars apart W args.toList ds gs before)
 (hres:∀(b:Nat) (sp:Nat→Bool) (hd:Bool),DataW.TrodAll enc P W' b sp hd f.resultTypes.toList (v.resultList f.resultTypes.size) (s.fn H (ds++gs)).results [])
 (hargs:∀sp:Nat→Bool,(∀p∈before,sp p.block=true)→DataW.TrodAll enc P W' 0 sp true f.params.toList args.toList (s.fn H (ds++gs)).args pa)
 (hvars:∀sp:Nat→Bool,(∀p∈before,sp p.block=true)→DataW.TrodVars enc P W' sp s.vars (s.fn H (ds++gs)).vars pv)
 (hps:before=pa++pv) (hb:Below W.heap.size W W')
 (hok:∀(j:Nat) (t:TypeId) (r:Value),f.resultTypes[j]? =some t→(v.resultList f.resultTypes.size)[j]? =some r→Value.okWide P W' .any 0 t r):
 s.post enc P f apart fresh handsOn again W args v W':=by
 have hlt:∀p∈before,p.block<W.heap.size:=fun p hp=>hW.lt p hp
 have hold:∀p∈before,(fun b=>decide (b<W.heap.size)) p.block=true:=fun p hp=>by simpa using hlt p hp
 refine ⟨ds,gs,before,[],pa,pv,hW,hres _ _ _,hargs _ hold,hvars _ hold,World.keptBut_mono (fun p hp=>⟨hp,?_⟩) (hb.frame (· ∈before)),fun _=> ?_⟩
 ·rw [hps,List.mem_append] at hp;exact Or.inr hp
 ·obtain ⟨_,_,_,_,_,hz,hn⟩:=hW;refine ⟨hok,_,_,([]++pa)++pv,⟨[]++pa,pv,trodAll_append (hargs _ (fun _ _=>rfl)) (hres _ _ _),hvars _ (fun _ _=>rfl),rfl,?_,?_⟩,?_⟩
  ·intro b off hp
   have hin:MemPlace.cell b off∈before:=by rw [hps];simpa using hp
   rw [hb.frozen (hlt _ hin)];exact hz b off hin
  ·intro ha
   have:=hn ha
   rw [hps] at this
   simpa using this
  ·intro p hp _;rw [hps]
   simpa using hp
end
end Go.Proofs.YtfcnkpofcekmgaaGreat
