/- Texts joined. -/
import Derived.Test.YtfcnkpofcekmgaaGreatNQ12
set_option maxRecDepth 100000
set_option maxHeartbeats 64000000
namespace Go.Proofs.YtfcnkpofcekmgaaGreat
open Go.RowKit
def zeroK:List Value:= [.slice none 0 0,.int .i64 0,.slice none 0 0,.int .i64 0,.int .i64 0]
def zHD (w0:World) (L:List Ent) (r:Nat) (v:Value) (z:PC×Nat×Bool) (e:Ending) (w':World):Prop:=
 ∃x:CV,e= .returned (zJ x)∧x.c=z.1∧(yE x.c.kind∧yE x.c.page∧yE x.c.count)∧Sep w0 w' (zB x.kv x.c.key::zB x.vv x.c.val::gQ r v z.2.1 z.2.2::L)
theorem zDE {w0 w:World} {L:List Ent} {r:Nat} {v pv:Value} {d pre:List UInt8} {at_:Nat} (hS:Sep w0 w (gQ r v at_ false::L)) (hold:yK w0∈L) (hv:RdB w0 v d) (hp:RdB w0 pv pre) (hd:d.length≤65536) (hpl:pre.length≤65536) (ha:at_≤d.length) (kind:Int) (i:Nat):
 Calls Tryz.prog 146 #[.pointer (some ⟨r,0,none⟩),.int .i64 kind,.int .i64 (i:Int),pv] w (zHD w0 L r v (fI d kind i pre at_)):=by
 obtain ⟨PA,pc,rfl,hpm⟩:=hp.form;have hS1:=(hS.alloc 43 zeroK).sw1;have hS2:Sep w0 _ (gQ r v at_ false::z7 _ 43 zeroK::z7 _ 43 zeroK::L):=(hS1.alloc 43 zeroK).sw1;have hb0:Below w.heap.size w (w.alloc (.cells zeroK.toArray 43)):=(Below.refl _ _).alloc (Nat.le_refl _) _;unfold zeroK at hS2;rw [World.size_alloc] at hS2;clear hS1 hb0;have hp1:=nZ hS2 hv hd ha 1;rw [show ((1:Nat):Int)=1 from rfl] at hp1
 have HE:Hid (fI d kind i pre at_=gW d ((if kind=3∧i=0 then [] else pre)++(qG d (kD d at_).2.1 (kD d at_).2.2).1) (((kD d at_).1.headD 0).toNat:Nat) (qG d (kD d at_).2.1 (kD d at_).2.2).2.1 (qG d (kD d at_).2.1 (kD d at_).2.2).2.2):=Lib.hid rfl
 have hz:paK d at_ false 1=kD d at_:=rfl;have hz1:=uI (d:=d) ha
 have hz2:(kD d at_).1.length≤1:=by unfold kD paK;split<;>simp;omega
 rw [hz] at hp1;generalize kD d at_=hh at*;obtain ⟨hl,t1,b1⟩:=hh;simp only at hp1 HE hz1 hz2;have hr0:=aS (d:=d) (t:=t1) b1 hz1;clear hz ha hS hS2;generalize fI d kind i pre at_=cz at*;go_enter Tryz.func146,Tryz.ntmps146
 go_upto_if 17 with (first
  |(go_at_call 173;(with_reducible refine hp1.mono ?_);rintro e w2 ⟨HA,hc,rfl,hhr,hS2⟩)
  |fail)
 generalize w.heap.size+1=cb at*;generalize w.heap.size=rb at*;clear hp1
 go_cut [] (fun wx=>Sep w0 wx (gQ r v t1 b1::z7 cb 43 [.slice none 0 0,.int .i64 ((hl.headD 0).toNat:Int),.slice none 0 0,.int .i64 0,.int .i64 0]::z7 rb 43 [.slice none 0 0,.int .i64 0,.slice none 0 0,.int .i64 0,.int .i64 0]::L))
 case first=>
  match hl,hz2,hhr with
  | [],_,_=>
   go_wp2_with fail;go_meet;exact hS2
  | [x],_,hhr=>
   have hrd:=hS2.rd (v:=w0) (by simp [hold]) hhr;obtain ⟨ad,rfl,hcx⟩:=hrd.at_ (j:=0) (by simp);have hcx':w2.cell? ad=some (.int .u8 (x.toNat:Int)):=hcx;have hxl:=x.toNat_lt
   have hxw:IntKind.i64.wrap (x.toNat:Int)=(x.toNat:Int):=by rw [IntKind.wrap_i64];omega
   have hCb:OBlk w2 cb 43 _:=hS2.tail.head;have y1:=hCb.cell' (j:=1) (u:= .int .i64 0) rfl;have f1:=hCb.frozen (j:=1) (by simp);clear hcx hrd;go_wp2_with fail;go_meet;exact (hS2.sw1.setCell 1 (.int .i64 (x.toNat:Int))).sw1
  |_::_::_,h,_=>simp at h
 case rest=>
  have hS3:=hcut;clear hcut hS2 hhr hz2;obtain ⟨kb,hkb⟩:∃kb:Nat,(hl.headD 0).toNat=kb:=⟨_,rfl⟩
  have hkl:kb<256:=by rw [←hkb];exact (hl.headD 0).toNat_lt
  rw [hkb] at hS3 HE;clear hkb;have hn:=pG hS3 (by simp [hold]) hv hd hz1;have hle:=fR (d:=d) b1 hz1;have hres:qG d t1 b1=paK d (nuK d t1 b1).2.1 (nuK d t1 b1).2.2 (nuK d t1 b1).1:=rfl;generalize nuK d t1 b1=nn at*;obtain ⟨nv,t9,b9⟩:=nn;simp only at hn hle hres;have HRES:=Lib.hid hres;clear hres hS3
  go_upto_region 6 with (first
   |(go_at_call 174;(with_reducible refine hn.mono ?_);rintro e w4 ⟨rfl,hS4⟩)
   |(go_at_call 173;(with_reducible refine (nZ hS4 hv hd hle nv).mono ?_);rintro e w5 ⟨RA,rc,rfl,hrr,hS5⟩)
   |fail)
  rw [←HRES.out] at hrr hS5;rw [←HRES.out];clear hn hle HRES hS4;have hrl0:(qG d t1 b1).1.length≤d.length:=zA2 _ _ _ _;generalize qG d t1 b1=rr at*;obtain ⟨rl,t2,b2⟩:=rr;simp only at hrr hS5 HE hr0 hrl0⊢
  obtain ⟨P2,hP2⟩:∃P2,(if kind=3∧i=0 then [] else pre)=P2:=⟨_,rfl⟩
  have hP2l:P2.length≤65536:=by rw [←hP2];split;(simp);exact hpl
  rw [hP2] at HE
  go_cut [32] (fun s wx=>s= .bool (!decide (kind=3∧i=0))∧wx=w5)
  case first=>
   clear hP2
   by_cases h3:kind=3
   ·have e1:(kind !=3)=false:=by simp [h3]
    by_cases h0:i=0
    ·have e2:¬(0:Int)<(i:Int):=by omega
     have e3:(!decide (kind=3∧i=0))=false:=by simp [h3,h0]
     have e3:=Lib.hid e3;clear h3 h0;go_wp2_with fail;go_meet;exact ⟨by rw [e3.out];congr 1;exact decide_eq_false (by omega),rfl⟩
    ·have e2:(0:Int)<(i:Int):=by omega
     have e3:(!decide (kind=3∧i=0))=true:=by simp [h0]
     have e3:=Lib.hid e3;clear h3 h0;go_wp2_with fail;go_meet;exact ⟨by rw [e3.out];congr 1;exact decide_eq_true (by omega),rfl⟩
   ·have e1:(kind !=3)=true:=by simp [h3]
    have e3:(!decide (kind=3∧i=0))=true:=by simp [h3]
    have e3:=Lib.hid e3;clear h3;go_wp2_with fail;go_meet;exact ⟨by rw [e3.out],rfl⟩
  case rest=>
   obtain ⟨rfl,rfl⟩:=hcut
   go_upto_if 32 with (fail)
   go_cut [] (fun wx=>∃KA ka,Sep w0 wx (zB (.slice KA P2.length ka) P2::z7 cb 43 [.slice KA P2.length ka,.int .i64 (kb:Int),.slice none 0 0,.int .i64 0,.int .i64 0]::z7 rb 43 [.slice none 0 0,.int .i64 0,.slice none 0 0,.int .i64 0,.int .i64 0]::gQ r v t2 b2::L))
   case first=>
    have hS6:Sep w0 wc (zB (.slice none 0 0) []::z7 cb 43 [.slice none 0 0,.int .i64 (kb:Int),.slice none 0 0,.int .i64 0,.int .i64 0]::z7 rb 43 [.slice none 0 0,.int .i64 0,.slice none 0 0,.int .i64 0,.int .i64 0]::gQ r v t2 b2::L):=(hS5.sw [_,_]).sw2.nil
    by_cases hq:kind=3∧i=0
    ·rw [if_pos hq] at hP2;subst hP2
     have e3:(!decide (kind=3∧i=0))=false:=by simp [hq]
     rw [e3];clear e3 hq;go_wp2_with fail;go_meet;exact ⟨none,0,hS6⟩
    ·rw [if_neg hq] at hP2;subst hP2
     have e3:(!decide (kind=3∧i=0))=true:=by simp only [hq];rfl
     rw [e3];have hpr:=hS6.rd (v:=w0) (by simp [hold]) hp;have hCb:OBlk wc cb 43 _:=hS6.tail.head;have y0:=hCb.cell' (j:=0) (u:= .slice none 0 0) rfl;have HS6:=Lib.hid hS6;clear e3 hq hS6 hS5
     go_wp2_with (first
      |(at_builtin;refine yG rfl (.tmp 34) (.tmp 35) rfl 0 (.slice none 0 0) [] rfl (OwB.nil _ _) (.slice PA pre.length pc) pre rfl hpr (by simp;omega) (Nat.zero_le _) ?_;intro v8 w8 ho8 hg8 hk8;have hS8:=HS6.out.appended ho8 hg8 hk8;have hCb8:OBlk w8 cb 43 _:=hS8.tail.head;have f0:=hCb8.frozen (j:=0) (by simp);have y0':=hCb8.cell' (j:=0) (u:= .slice none 0 0) rfl;obtain ⟨KA,ka,rfl⟩:=Own.slice ho8)
      |fail)
     go_meet;exact ⟨KA,ka,(hS8.sw1.setCell 0 _).sw1⟩
   case rest=>
    obtain ⟨KA,ka,hS6⟩:=hcut;clear hS5 hP2;have hCb:OBlk _ cb 43 _:=hS6.tail.head;have y0:=hCb.cell' (j:=0) (u:= .slice KA P2.length ka) rfl;have hrw:=hS6.rd (v:=w0) (by simp [hold]) hrr;have hko:OwB _ 0 (.slice KA P2.length ka) P2:=hS6.head;have HS6:=Lib.hid hS6
    have hrl:rl.length≤65536:=by omega
    obtain ⟨kl,hkl0⟩:∃kl,(P2++rl).length=kl:=⟨_,rfl⟩;have HKL:=Lib.hid hkl0;clear hS6 hkl0
    go_upto_if 45 with (first
     |(at_builtin;refine yG rfl (.tmp 39) (.tmp 40) rfl 0 (.slice KA P2.length ka) P2 rfl hko (.slice RA rl.length rc) rl rfl hrw (by omega) (Nat.zero_le _) ?_;intro v8 w8 ho8 hg8 hk8;have hS8:=HS6.out.appended ho8 hg8 hk8;have hCb8:OBlk w8 cb 43 _:=hS8.tail.head;have f0:=hCb8.frozen (j:=0) (by simp);have y0':=hCb8.cell' (j:=0) (u:= .slice KA P2.length ka) rfl;have y1':=hCb8.cell' (j:=1) (u:= .int .i64 (kb:Int)) rfl;obtain ⟨JA,ja,hJ⟩:=Own.slice ho8;rw [HKL.out] at hJ;subst hJ)
     |fail)
    have hS9:=(hS8.sw1.setCell 0 (.slice JA kl ja)).sw1
    have hkl9:(P2++rl).length≤131072:=by rw [List.length_append];omega
    clear hS8 hCb hCb8 y0 y0' y1' f0 hrw hko hrr HS6 ho8 hg8 hk8 hP2l hrl0 hrl hp hpm;generalize P2++rl=key at*;obtain rfl:key.length=kl:=HKL.out;clear HKL;generalize w8.setCell ⟨cb,0,none⟩ (.slice JA key.length ja)=w9 at*
    by_cases hk1:kb=1
    ·subst hk1
     have HT:Hid (cz=(⟨key,1,(paK d (nuK d t2 b2).2.1 (nuK d t2 b2).2.2 (nuK d t2 b2).1).1,0,0⟩,(paK d (nuK d t2 b2).2.1 (nuK d t2 b2).2.2 (nuK d t2 b2).1).2.1,(paK d (nuK d t2 b2).2.1 (nuK d t2 b2).2.2 (nuK d t2 b2).1).2.2)):=by
      show _=_
      rw [HE.out];unfold gW;rw [if_pos (by rfl)];rfl
     have hn:=pG (hS9.sw [_,_,_]) (by simp [hold]) hv hd hr0;have hle:=fR (d:=d) b2 hr0;clear HE hS9;generalize nuK d t2 b2=nn at*;obtain ⟨nv,t9,b9⟩:=nn;simp only at hn hle HT;have hvl:=zA2 d t9 b9 nv;generalize hpk:paK d t9 b9 nv=pk at*;obtain ⟨vl,t4,b4⟩:=pk;simp only at HT hvl;have HPK:=Lib.hid hpk;clear hpk
     go_upto_region 11 with (first
      |(go_at_call 174;(with_reducible refine hn.mono ?_);rintro e w4 ⟨rfl,hS4⟩)
      |(go_at_call 173;(with_reducible refine (nZ hS4 hv hd hle nv).mono ?_);rintro e w5 ⟨RA,rc,rfl,hrr,hS5⟩;rw [HPK.out] at hrr hS5;rw [HPK.out];have hrw:=hS5.rd (v:=w0) (by simp [hold]) hrr)
      |(go_at_call 167;(with_reducible refine (bU (.slice RA vl.length rc) vl w5 hrw (by omega)).mono ?_);rintro e w6 ⟨v6,rfl,ho6,hw6⟩;obtain ⟨VA,vc,rfl⟩:=Own.slice ho6;have hS6:=hS5.bytes hw6 ho6 (Nat.le_refl _);have hCb6:OBlk w6 cb 43 _:=hS6.tail.tail.tail.head;have f2:=hCb6.frozen (j:=2) (by simp);have y2:=hCb6.cell' (j:=2) (u:= .slice none 0 0) rfl)
      |fail)
     have hS7:=(hS6.sw [_,_,_]).setCell 2 (.slice VA vl.length vc);clear hn hS4 hS5 hrw hrr hS6 hCb6 f2 y2 ho6 hw6;generalize w6.setCell ⟨cb,2,none⟩ (.slice VA vl.length vc)=w7 at*;obtain ⟨y0,y1,y2,y3,y4⟩:=zC (show OBlk w7 cb 43 [.slice JA key.length ja,.int .i64 1,.slice VA vl.length vc,.int .i64 0,.int .i64 0] from hS7.head);have hRb:OBlk w7 rb 43 [.slice none 0 0,.int .i64 0,.slice none 0 0,.int .i64 0,.int .i64 0]:=hS7.tail.tail.tail.tail.head;obtain ⟨r0,r1,r2,r3,r4⟩:=zC hRb;obtain ⟨f0,f1,f2,f3,f4⟩:=xJ hRb;go_wp2_with fail;have hF:=(hS7.sw [_,_,_,_]).set5 (.slice JA key.length ja) (.int .i64 1) (.slice VA vl.length vc) (.int .i64 0) (.int .i64 0);obtain ⟨e0,e1,e2,e3,e4⟩:=zC hF.head;refine bodyPost_ret (v:= .agg #[.slice JA key.length ja,.int .i64 1,.slice VA vl.length vc,.int .i64 0,.int .i64 0]) ?_ rfl ?_
     ·simp [results,Tryz.results146,go_sem,e0,e1,e2,e3,e4]
     ·exact ⟨⟨.slice JA key.length ja,.slice VA vl.length vc,⟨key,1,vl,0,0⟩⟩,rfl,by rw [HT.out],by refine ⟨?_,?_,?_⟩<;>(show _≤_∧_≤_;simp only;omega),by rw [HT.out];exact hF.tail.tail.sw [_,_]⟩
    ·have HT:Hid (cz=(⟨key,(kb:Int),[],((smK d t2 b2).1:Nat),((smK d (smK d t2 b2).2.1 (smK d t2 b2).2.2).1:Nat)⟩,(smK d (smK d t2 b2).2.1 (smK d t2 b2).2.2).2.1,(smK d (smK d t2 b2).2.1 (smK d t2 b2).2.2).2.2)):=by
      show _=_
      rw [HE.out];unfold gW;rw [if_neg (by omega)]
     have e1:((kb:Int)==1)=false:=beq_eq_false_iff_ne.2 (by omega);have hn:=sW (hS9.sw [_,_,_]) (by simp [hold]) hv hd hr0;have hle:=zAC (d:=d) b2 hr0;have hm1:=tO d t2 b2;clear HE hS9 hk1;generalize smK d t2 b2=nn at*;obtain ⟨pn,t9,b9⟩:=nn;simp only at hn hle HT hm1;have hm2:=tO d t9 b9;have hn2:=fun W (M:List Ent) (hM:yK w0∈M) (h:Sep w0 W (gQ r v t9 b9::M))=>sW (d:=d) h hM hv hd hle;generalize smK d t9 b9=nm at*;obtain ⟨cn,t4,b4⟩:=nm;simp only at hn2 HT hm2
     go_upto_region 14 with (first
      |(go_at_call 175;(with_reducible refine hn.mono ?_);rintro e w4 ⟨rfl,hS4⟩;have hCb4:OBlk w4 cb 43 _:=hS4.tail.tail.head;have f3:=hCb4.frozen (j:=3) (by simp);have y3:=hCb4.cell' (j:=3) (u:= .int .i64 0) rfl;have hS4':=(((hS4.sw [_,_]).setCell 3 (.int .i64 (pn:Int))).sw [_]))
      |(go_at_call 175;(refine (hn2 _ _ (by simp [hold]) hS4').mono ?_);rintro e w5 ⟨rfl,hS5⟩;have hCb5:OBlk w5 cb 43 _:=hS5.tail.head;have f4:=hCb5.frozen (j:=4) (by simp);have y4:=hCb5.cell' (j:=4) (u:= .int .i64 0) rfl)
      |fail)
     have hS6:=hS5.sw1.setCell 4 (.int .i64 (cn:Int));clear hn hn2 hS4 hS4' hS5 hCb4 hCb5 f3 f4 y3 y4;generalize w5.setCell ⟨cb,4,none⟩ (.int .i64 (cn:Int))=w6 at*;obtain ⟨y0,y1,y2,y3,y4⟩:=zC (show OBlk w6 cb 43 [.slice JA key.length ja,.int .i64 (kb:Int),.slice none 0 0,.int .i64 (pn:Int),.int .i64 (cn:Int)] from hS6.head);have hRb:OBlk w6 rb 43 [.slice none 0 0,.int .i64 0,.slice none 0 0,.int .i64 0,.int .i64 0]:=hS6.tail.tail.tail.head;obtain ⟨r0,r1,r2,r3,r4⟩:=zC hRb;obtain ⟨f0,f1,f2,f3,f4⟩:=xJ hRb;go_wp2_with fail;have hF:=(hS6.sw [_,_,_]).set5 (.slice JA key.length ja) (.int .i64 (kb:Int)) (.slice none 0 0) (.int .i64 (pn:Int)) (.int .i64 (cn:Int));obtain ⟨e0,e1,e2,e3,e4⟩:=zC hF.head;refine bodyPost_ret (v:= .agg #[.slice JA key.length ja,.int .i64 (kb:Int),.slice none 0 0,.int .i64 (pn:Int),.int .i64 (cn:Int)]) ?_ rfl ?_
     ·simp [results,Tryz.results146,go_sem,e0,e1,e2,e3,e4]
     ·exact ⟨⟨.slice JA key.length ja,.slice none 0 0,⟨key,(kb:Int),[],(pn:Int),(cn:Int)⟩⟩,rfl,by rw [HT.out],by refine ⟨?_,?_,?_⟩<;>(show _≤_∧_≤_;simp only;omega),by rw [HT.out];exact hF.tail.tail.nil.sw [_,_]⟩
theorem Sep.sub3 {w0 w:World} {a b c:Ent} (h:Sep w0 w [a,b,c]):Sep w0 w [a,c]:=h.sw1.tail
theorem Sep.ownW {w0 w:World} {v:Value} {l:List UInt8} {L:List Ent} (h:Sep w0 w (zB v l::yK w0::L)):OwB w w0.heap.size v l:=OwB.base_le h.head (fun g hg=>Nat.le_of_not_lt (h.far (A:=yK w0) (List.mem_cons_self ..) g hg))
theorem OwB.ofBlk {w:World} {g:Nat} {b:UInt8} (h:OBlk w g 5 [.int .u8 (b.toNat:Int)]):OwB w 0 (.slice (some ⟨g,0,none⟩) 1 1) [b]:=by
 have h2:=OBlk.owB' (m:= [b]) (w:=w) (g:=g) (base:=0) h (Nat.zero_le _) (by simp [maxLen]);exact h2
theorem Sep.byte {w0 w:World} {L:List Ent} {g:Nat} {b:UInt8} {n:Int} (hn:n=(b.toNat:Int)) (h:Sep w0 w (z7 g 5 [.int .u8 n]::L)):Sep w0 w (zB (.slice (some ⟨g,0,none⟩) 1 1) [b]::L):=
 h.weak (fun hp=>OwB.ofBlk (by rw [←hn];exact hp)) (fun g' hg=>(Option.some.inj hg).symm)
theorem wX (P:Nat) (hP:P≤65536) (kind:Int) (i:Nat) (x:CV) (pre:Nat) (w:World) (hx:x.ok w) (hok:OkC P x.c) (hp:¬(kind=3∧i=0)→pre≤x.c.key.length):
 Calls Tryz.prog 142 #[.int .i64 kind,.int .i64 (i:Int),zJ x,.int .i64 (pre:Int)] w fun e w'=>∃v,e= .returned v∧OwB w' w.heap.size v (pcF kind i x.c pre)∧Below w.heap.size w w':=by
 have hrest:=wD kind i x pre _ (hx.below ((Below.refl _ _).alloc (Nat.le_refl _) (.cells [x.kv,.int .i64 x.c.kind,x.vv,.int .i64 x.c.page,.int .i64 x.c.count].toArray 43))) hp
 have hrl:(yI kind i x.c.key pre).length≤x.c.key.length:=by unfold yI;split<;>simp
 have hC:=OBlk.new' w 43 [x.kv,.int .i64 x.c.kind,x.vv,.int .i64 x.c.page,.int .i64 x.c.count];have hA:Below w.heap.size w (w.alloc (.cells [x.kv,.int .i64 x.c.kind,x.vv,.int .i64 x.c.page,.int .i64 x.c.count].toArray 43)):=(Below.refl _ _).alloc (Nat.le_refl _) _;have k0:=hok.k0;have kd:=hok.kd;have v0:=hok.v0;have v1:=hok.v1;obtain ⟨A,ca,B,cb,key,ck,val,pg,ct,rfl,_,_⟩:=CV.form hx;have hxv:RdB w (.slice B val.length cb) val:=hx.v;simp only at k0 kd v0 v1 hrl hrest hC hA;unfold zJ at hrest⊢;simp only at hrest⊢;obtain ⟨kn,rfl⟩:=Int.eq_ofNat_of_zero_le (show 0≤ck by omega)
 have kn4:kn≤4:=by omega
 have hkw:IntKind.u8.wrap (kn:Int)=(kn:Int):=by rw [IntKind.wrap_u8];omega
 have hkn:(kn:Int)=((UInt8.ofNat kn).toNat:Int):=by rw [UInt8.toNat_ofNat'];omega
 have hpc:pcF kind i ⟨key,(kn:Int),val,pg,ct⟩ pre=UInt8.ofNat kn::(zR (yI kind i key pre).length++(yI kind i key pre++kvF ⟨key,(kn:Int),val,pg,ct⟩)):=by
  unfold pcF u8I;simp only
  congr 2
  omega
 have hkv1:kn=1→kvF ⟨key,(kn:Int),val,pg,ct⟩=zR val.length++val:=fun h=>by unfold kvF;rw [if_pos (by simp only;omega)]
 have hkv2:kn≠1→kvF ⟨key,(kn:Int),val,pg,ct⟩=zR (xZ pg)++zR (xZ ct):=fun h=>by unfold kvF;rw [if_neg (by simp only;omega)]
 have hvl:kn=1→val.length≤65536:=fun h=>by have:=(v0 (by omega)).1;omega
 have HPC:=Lib.hid hpc;have HKN:=Lib.hid hkn;have HV:=Lib.hid (hxv.below hA (Nat.le_refl _));have HK1:=Lib.hid hkv1;have HK2:=Lib.hid hkv2;have HVL:=Lib.hid hvl;clear hx hok hpc hkn hxv hp hkv1 hkv2 hvl v0 v1;generalize yI kind i key pre=rs at*;go_enter Tryz.func142,Tryz.ntmps142
 go_upto_region 2 with (first
  |(go_at_call 170;(with_reducible refine hrest.mono ?_);rintro e w2 ⟨RA,rc,rfl,hrr,hw2⟩)
  |fail)
 clear hrest;obtain ⟨bx,hbx⟩:∃b,w.heap.size=b:=⟨_,rfl⟩;have HBX:=Lib.hid hbx;rw [hbx] at hC⊢;generalize hw1:w.alloc (.cells [Value.slice A key.length ca,.int .i64 (kn:Int),.slice B val.length cb,.int .i64 pg,.int .i64 ct].toArray 43)=w1 at*;clear hw1;have hS2:=(Sep.start w1).below hw2;have HC:=Lib.hid (fun (W:World) (hB:Below w1.heap.size w1 W)=>zC (hC.below hB hC.lt));have HRR:=Lib.hid hrr;have hA':=Lib.hid hA;have k1:=(HC.out _ hw2).2.1;have hrm:=hrr.le;clear hC hA hrr hw2
 have hlw:IntKind.u64.wrap (rs.length:Int)=(rs.length:Int):=by rw [IntKind.wrap_u64];omega
 have hU0:=fS rs.length (by omega) w2.drew;have hU1:=fS rs.length (by omega) (w2.drew.alloc (.cells #[.int .u8 (kn:Int)] 5));have hSa:=hS2.drew.alloc 5 [.int .u8 (kn:Int)];obtain ⟨i0,hi0,hz0,hz1,hz2⟩:=info_parts b8;have HSA:=Lib.hid hSa;have HS2:=Lib.hid hS2;have hul:=yF (n:=rs.length) (by omega);clear hSa hS2 hbx;generalize hue:zR rs.length=ul at*;clear hue
 go_cut [10] (fun b wx=>∃BA bc,b= .slice BA (1+ul.length) bc∧Sep w1 wx [zB (.slice BA (1+ul.length) bc) (UInt8.ofNat kn::ul),yK w1])
 case first=>
  go_region_law
   (first
    |(go_simp;go_at_call 171;(with_reducible refine hU0.mono ?_);rintro e w4 ⟨v4,rfl,ho4,hw4⟩;obtain ⟨V4,c4,rfl⟩:=Own.slice ho4;have hS4:=HS2.out.drew.bytes hw4 ho4 (Nat.le_refl _);have k1':=(HC.out _ (Sep.belowOld (_v:=w1) hS4 (by simp))).2.1;have hSb:=Sep.byte (b:=UInt8.ofNat kn) HKN.out (hS4.alloc 5 [.int .u8 (kn:Int)]);have hown:OwB _ 0 _ [UInt8.ofNat kn]:=hSb.head;have hrd:RdB _ (.slice V4 ul.length c4) ul:=OwB.rd (show OwB _ 0 (.slice V4 ul.length c4) ul from hSb.tail.head))
    |(go_simp;go_at_call 171;refine hU1.mono ?_;rintro e w4 ⟨v4,rfl,ho4,hw4⟩;obtain ⟨V4,c4,rfl⟩:=Own.slice ho4;have hSb:=(Sep.byte (b:=UInt8.ofNat kn) HKN.out (HSA.out.bytes hw4 ho4 (Nat.le_refl _)).sw1);have hown:OwB _ 0 _ [UInt8.ofNat kn]:=hSb.head;have hrd:RdB _ (.slice V4 ul.length c4) ul:=OwB.rd (show OwB _ 0 (.slice V4 ul.length c4) ul from hSb.tail.head))
    |(refine oL (by rfl) (.tmp 19) (.tmp 23) _ _ (by rfl) 0 5 i0 _ 1 1 Tryz.underlying41 hi0 hz0 hz1 hz2 rfl _ 1 (bvs [UInt8.ofNat kn]) (by simp [Act.eval]) hown (.slice V4 ul.length c4) ul.length (bvs ul) (by simp [Act.eval]) (Rd.src _ Tryz.underlying41 (by omega) hrd.rd (dL _)) (by omega) (by omega) (Nat.zero_le _) ?_;intro v6 w6 ho6 hg6 hk6;obtain ⟨V6,c6,rfl⟩:=Own.slice ho6)
    |fail)
  all_goals
   have ho7:OwB w6 0 (.slice V6 (1+ul.length) c6) (UInt8.ofNat kn::ul):=by
    rw [←gF] at ho6;unfold OwB;rw [show (UInt8.ofNat kn::ul).length=1+ul.length by simp;omega];exact ho6
   have hS6:=hSb.appended ho7 hg6 hk6;go_wp2_with fail;go_meet;exact ⟨V6,c6,rfl,Sep.sub3 hS6⟩
 case rest=>
  obtain ⟨BA,bc,rfl,hS3⟩:=hcut;clear hU0 hU1 HSA HS2 k1;have ho3:OwB _ 0 (.slice BA (1+ul.length) bc) (UInt8.ofNat kn::ul):=hS3.head;have hr3:=hS3.rd (v:=w1) (by simp) HRR.out
  go_upto_region 4 with (first
   |(at_builtin;refine yG rfl (.tmp 25) (.tmp 26) rfl 0 (.slice BA (1+ul.length) bc) (UInt8.ofNat kn::ul) rfl ho3 (.slice RA rs.length rc) rs rfl hr3 (by simp;omega) (Nat.zero_le _) ?_;intro v5 w5 ho5 hg5 hk5)
   |fail)
  have hS5:=hS3.appended ho5 hg5 hk5;clear ho3 hr3 hS3 hg5 hk5;obtain ⟨V5,c5,rfl⟩:=Own.slice ho5;have hB5:=Sep.belowOld (_v:=w1) hS5 (by simp);obtain ⟨-,k1,k2,k3,k4⟩:=HC.out _ hB5;have HS5:=Lib.hid hS5;clear hS5 hB5;generalize hm5:UInt8.ofNat kn::ul++rs=m5 at*
  have hl5:m5.length≤8300:=by rw [←hm5];simp;omega
  have HPC2:Hid (pcF kind i ⟨key,(kn:Int),val,pg,ct⟩ pre=m5++kvF ⟨key,(kn:Int),val,pg,ct⟩):=Lib.hid (by rw [HPC.out,←hm5];simp);clear hm5 HPC
  by_cases h1:kn=1
  ·subst h1;have hkv:=HK1.out rfl;have hvl:=HVL.out rfl;have hU:=fS val.length (by omega) w5
   have hvw:IntKind.u64.wrap (val.length:Int)=(val.length:Int):=by rw [IntKind.wrap_u64];omega
   have hu2:=yF (n:=val.length) (by omega);generalize hue:zR val.length=uv at*;clear hue;have HKV:=Lib.hid hkv;clear hkv
   go_upto_region 6 with (first
    |(go_at_call 171;(with_reducible refine hU.mono ?_);rintro e w6 ⟨v6,rfl,ho6,hw6⟩;have hS6:=(HS5.out.bytes hw6 ho6 (Nat.le_refl _)).sw1;obtain ⟨V6,c6,rfl⟩:=Own.slice ho6;have hr6:=OwB.rd ho6;have hh6:OwB _ 0 (.slice V5 m5.length c5) m5:=hS6.head)
    |(at_builtin;refine yG rfl (.tmp 31) (.tmp 36) rfl 0 (.slice V5 m5.length c5) m5 rfl hh6 (.slice V6 uv.length c6) uv rfl hr6 (by omega) (Nat.zero_le _) ?_;intro v7 w7 ho7 hg7 hk7)
    |fail)
   have hS7:=(hS6.appended ho7 hg7 hk7).sub3;clear hS6 hr6 hh6 ho6 hg7 hk7 hw6 hU;obtain ⟨V7,c7,rfl⟩:=Own.slice ho7;have hB7:=Sep.belowOld (_v:=w1) hS7 (by simp);have hv7:=hS7.rd (v:=w1) (by simp) HV.out;clear k1 k2 k3 k4;obtain ⟨-,-,k2,-,-⟩:=HC.out _ hB7;have HS7:=Lib.hid hS7;clear hS7 hB7;generalize hm7:m5++uv=m7 at*
   have hl7:m7.length≤8310:=by rw [←hm7];simp;omega
   go_wp2_with (first
    |(at_builtin;refine yG rfl (.tmp 38) (.tmp 40) rfl 0 (.slice V7 m7.length c7) m7 rfl ho7 (.slice B val.length cb) val rfl hv7 (by omega) (Nat.zero_le _) ?_;intro v8 w8 ho8 hg8 hk8)
    |fail)
   go_ret;have hS8:=HS7.out.appended ho8 hg8 hk8
   have he:pcF kind i ⟨key,((1:Nat):Int),val,pg,ct⟩ pre=m7++val:=by rw [HPC2.out,HKV.out,←hm7,List.append_assoc]
   exact ⟨_,rfl,by rw [he];exact hS8.ownW.low (by have:=hA'.out.size;omega),hA'.out.trans ((Sep.belowOld (_v:=w1) hS8 (by simp)).mono hA'.out.size)⟩
  ·have e0:((kn:Int)==1)=false:=beq_eq_false_iff_ne.2 (by omega);have hkv:=HK2.out h1;have hU:=fS (xZ pg) (xW pg) w5;have q1:=kZ pg;have q2:=kZ ct;have hu2:=yF (xW pg);have hu3:=yF (xW ct);have HUC:=Lib.hid (fun W=>fS (xZ ct) (xW ct) W);generalize zR (xZ pg)=uv at*;generalize zR (xZ ct)=uc at*;generalize xZ pg=pn at*;generalize xZ ct=cn at*;have HKV:=Lib.hid hkv;clear hkv h1
   go_upto_region 8 with (first
    |(go_at_call 171;(with_reducible refine hU.mono ?_);rintro e w6 ⟨v6,rfl,ho6,hw6⟩;have hS6:=(HS5.out.bytes hw6 ho6 (Nat.le_refl _)).sw1;obtain ⟨V6,c6,rfl⟩:=Own.slice ho6;have hr6:=OwB.rd ho6;have hh6:OwB _ 0 (.slice V5 m5.length c5) m5:=hS6.head)
    |(at_builtin;refine yG rfl (.tmp 42) (.tmp 46) rfl 0 (.slice V5 m5.length c5) m5 rfl hh6 (.slice V6 uv.length c6) uv rfl hr6 (by omega) (Nat.zero_le _) ?_;intro v7 w7 ho7 hg7 hk7)
    |fail)
   have hS7:=(hS6.appended ho7 hg7 hk7).sub3;clear hS6 hr6 hh6 ho6 hg7 hk7 hw6 hU;obtain ⟨V7,c7,rfl⟩:=Own.slice ho7;have hB7:=Sep.belowOld (_v:=w1) hS7 (by simp);clear k1 k2 k3 k4;obtain ⟨-,-,-,-,k4⟩:=HC.out _ hB7;have HS7:=Lib.hid hS7;clear hS7 hB7;have hU:=HUC.out w7;generalize hm7:m5++uv=m7 at*
   have hl7:m7.length≤8310:=by rw [←hm7];simp;omega
   go_wp2_with (first
    |(go_at_call 171;(with_reducible refine hU.mono ?_);rintro e w8 ⟨v8,rfl,ho8,hw8⟩;have hS8:=(HS7.out.bytes hw8 ho8 (Nat.le_refl _)).sw1;obtain ⟨V8,c8,rfl⟩:=Own.slice ho8;have hr8:=OwB.rd ho8;have hh8:OwB _ 0 (.slice V7 m7.length c7) m7:=hS8.head)
    |(at_builtin;refine yG rfl (.tmp 48) (.tmp 52) rfl 0 (.slice V7 m7.length c7) m7 rfl hh8 (.slice V8 uc.length c8) uc rfl hr8 (by omega) (Nat.zero_le _) ?_;intro v9 w9 ho9 hg9 hk9)
    |fail)
   go_ret;have hS9:=(hS8.appended ho9 hg9 hk9).sub3
   have he:pcF kind i ⟨key,(kn:Int),val,pg,ct⟩ pre=m7++uc:=by rw [HPC2.out,HKV.out,←hm7,List.append_assoc]
   exact ⟨_,rfl,by rw [he];exact hS9.ownW.low (by have:=hA'.out.size;omega),hA'.out.trans ((Sep.belowOld (_v:=w1) hS9 (by simp)).mono hA'.out.size)⟩
def wV (w:World) (kind:Int) (l:List PC) (P:Int) (e:Ending) (w':World):Prop:=
 Below w.heap.size w w'∧((zO kind&&zT P)=false∧e= .returned (.tuple #[.slice none 0 0,.int .i64 1])∨
  (zO kind&&zT P)=true∧((kQ kind l P.toNat≠0∧e= .returned (.tuple #[.slice none 0 0,.int .i64 (kQ kind l P.toNat)]))∨
   (kQ kind l P.toNat=0∧∃g,e= .returned (.tuple #[.slice (some ⟨g,0,none⟩) P.toNat P.toNat,.int .i64 0])∧w.heap.size≤g∧OBlk w' g 5 (bvs (x9 kind l P.toNat)))))
theorem pU (kind:Int) (v:Value) (l:List CV) (P:Int) (hPr:yE P) (w:World) (hl:RdCs w v l) (hn:l.length≤2000000000000):
 Calls Tryz.prog 82 #[.int .i64 kind,v,.int .i64 P] w (wV w kind (pcs l) P):=by
 obtain ⟨A,c,rfl,hm,hc⟩:=hl.slice;have hKi:=fun W=>gZ kind W;have hPa:=fun W=>gT P hPr W
 cases hk:zO kind with
 |false=>
  have HK:Hid ((zO kind&&zT P)=false):=by show _=_;rw [hk];rfl
  rw [hk] at hKi;clear hk;go_enter Tryz.func82,Tryz.ntmps82;go_wp2_with (first|(go_at_call 135;refine (hKi _).mono ?_;rintro e w1 ⟨rfl,rfl⟩)|fail);go_ret2;exact ⟨Below.refl _ _,.inl ⟨HK.out,rfl⟩⟩
 |true=>
  cases hp:zT P with
  |false=>
   have HK:Hid ((zO kind&&zT P)=false):=by show _=_;rw [hk,hp];rfl
   rw [hk] at hKi;rw [hp] at hPa;clear hk hp;go_enter Tryz.func82,Tryz.ntmps82;go_wp2_with (first|(go_at_call 135;refine (hKi _).mono ?_;rintro e w1 ⟨rfl,rfl⟩)|(go_at_call 136;refine (hPa _).mono ?_;rintro e w1 ⟨rfl,rfl⟩)|fail);go_ret2;exact ⟨Below.refl _ _,.inl ⟨HK.out,rfl⟩⟩
  |true=>
   have HK:Hid ((zO kind&&zT P)=true):=by show _=_;rw [hk,hp];rfl
   have HKD:Hid (kind=2∨kind=3):=Lib.hid (of_decide_eq_true hk);obtain ⟨hP1,hP2⟩:=zZ hp;rw [hk] at hKi;rw [hp] at hPa;clear hk hp;obtain ⟨Q,rfl⟩:∃Q:Nat,P=(Q:Int):=⟨P.toNat,by omega⟩;unfold wV;rw [show ((Q:Int)).toNat=Q from rfl]
   have hQ1:512≤Q:=by omega
   have hQ2:Q≤65536:=by omega
   go_enter Tryz.func82,Tryz.ntmps82;go_wp2_with (first|(go_at_call 135;refine (hKi _).mono ?_;rintro e w1 ⟨rfl,rfl⟩)|(go_at_call 136;refine (hPa _).mono ?_;rintro e w1 ⟨rfl,rfl⟩)|fail);clear hKi hPa
   go_loopw [25] (fun i wr=>∃k:Nat,k≤l.length∧i= .int .i64 (k:Int)∧Hid (yT kind Q none (pcs l)=yT kind Q (xH (pcs l) k) ((pcs l).drop k))∧Hid (∀j (hj:j<k) (hjl:j<(pcs l).length),OkC Q (pcs l)[j])∧Below w.heap.size w wr) (fun i _=>l.length-(intOf i).toNat)
   case atStart=>exact ⟨0,Nat.zero_le _,rfl,Lib.hid rfl,Lib.hid (fun j hj=>by omega),Below.refl _ _⟩
   case round=>
    obtain ⟨k,hk,rfl,HSC,HOK,hB⟩:=hrel
    by_cases hlt:k<l.length
    ·have ik:(k:Int)<(l.length:Int):=by omega
     have hlp:k<(pcs l).length:=by rw [zA];exact hlt
     have hst:=dC (kind:=kind) (P:=Q) hlp;have hpk:=kA (pcs l) hlp;rw [←HSC.out] at hst
     have hcx:∀c,(pcs l)[k]=c→Hid (zQ kind Q c=true→∀j (hj:j<k+1) (hjl:j<(pcs l).length),OkC Q (pcs l)[j]):=fun c hc=>Lib.hid (fun hmay j hj hjl=>by
      by_cases e:j=k
      ·subst e;rw [hc];exact xY hmay
      ·exact HOK.out j (by omega) hjl)
     rw [zV hlt] at hst hpk;have hcx:=hcx _ (zV hlt);obtain ⟨ad,rfl,c0,c1,c2,c3,c4⟩:=(hl.below hB).at_ hlt;have hx:=(hl.below hB).ok _ (List.getElem_mem hlt)
     have hprev:∀q,xH (pcs l) k=some q→∃A0 a0,0<k∧RdB wr (.slice A0 q.length a0) q∧wr.cell? (ad.add ((k-1)*5))=some (.slice A0 q.length a0):=fun q hq=>by
      unfold xH at hq
      split at hq
      ·cases hq
      ·have hk1:k-1<l.length:=by omega
       obtain ⟨_,ea,d0,_⟩:=(hl.below hB).at_ hk1
       cases ea
       have hxp:=(hl.below hB).ok _ (List.getElem_mem hk1)
       have e1:(pcs l).getD (k-1) default=l[k-1].c:=by simp [List.getD,pcs,hk1]
       rw [e1] at hq;injection hq with hq;obtain ⟨A0,a0,he,_⟩:=hxp.k.form;rw [he,hq] at d0;have hk2:=hxp.k;rw [he,hq] at hk2;exact ⟨A0,a0,by omega,hk2,d0⟩
     generalize l[k]=x at*;obtain ⟨A1,a1,B1,b1,key,ck,val,pg,ct,rfl,_,_⟩:=CV.form hx;have hma:=fun W=>oI ⟨.slice A1 key.length a1,.slice B1 val.length b1,⟨key,ck,val,pg,ct⟩⟩ kind HKD.out Q hQ2 W;unfold zJ at hma;have hA0:Below wr.heap.size wr (wr.alloc (.cells #[.slice A1 key.length a1,.int .i64 ck,.slice B1 val.length b1,.int .i64 pg,.int .i64 ct] 43)):=(Below.refl wr.heap.size wr).alloc (Nat.le_refl _) _;have hA:=hB.trans (hA0.mono hB.size);have hx':CV.ok (wr.alloc (.cells #[.slice A1 key.length a1,.int .i64 ck,.slice B1 val.length b1,.int .i64 pg,.int .i64 ct] 43)) ⟨.slice A1 key.length a1,.slice B1 val.length b1,⟨key,ck,val,pg,ct⟩⟩:=hx.below hA0;have hcb:=OBlk.new' wr 43 [.slice A1 key.length a1,.int .i64 ck,.slice B1 val.length b1,.int .i64 pg,.int .i64 ct]
     have hst':yT kind Q none (pcs l)=if zQ kind Q ⟨key,ck,val,pg,ct⟩=false then 62 else if qW (xH (pcs l) k) key=false then 63 else yT kind Q (xH (pcs l) (k+1)) ((pcs l).drop (k+1)):=hst
     clear hst;have hgl:=hB.size;have hxk:=hx'.k;simp only at hxk;clear hx hB;go_wp2_with fail;refine (hma _ hx').mono ?_;rintro e w2 ⟨rfl,hb2⟩;have hA2:=hA.trans (hb2.mono hA.size);have hcb2:=hcb.below hb2 hcb.lt;have hA02:=hA0.trans (hb2.mono hA0.size);rcases Bool.eq_false_or_eq_true (zQ kind Q ⟨key,ck,val,pg,ct⟩) with hmy|hmy
     ·rw [if_neg (by rw [hmy];simp)] at hst';have HCX:=Lib.hid (hcx.out hmy);clear hma hcx hcb hA hA0 hx' c0 c1 c2 c3 c4 HOK;have k0:w2.cell? ⟨wr.heap.size,0,none⟩=some (.slice A1 key.length a1):=hcb2.cell' rfl;have hkr:RdB w2 (.slice A1 key.length a1) key:=hxk.below hb2 (Nat.le_refl _);rw [hmy];clear hmy
      by_cases hk0:0<k
      ·obtain ⟨kk,rfl⟩:∃kk,k=kk+1:=⟨k-1,by omega⟩;obtain ⟨q,hq⟩:∃q,xH (pcs l) (kk+1)=some q:=⟨_,kA (pcs l) (by rw [zA];omega)⟩;obtain ⟨A0,a0,_,hqr,hqc⟩:=hprev q hq;rw [hq] at hst';rw [show kk+1-1=kk by omega] at hqc;have hq2:w2.cell? (ad.add (kk*5))=some (.slice A0 q.length a0):=(hA02.cell (World.block_lt_of_cell? wr _ hqc)).trans hqc;have hqr2:=hqr.below hA02 (Nat.le_refl _)
       have j1:(0:Int)≤(kk:Int):=by omega
       have j2:(kk:Int)<(l.length:Int):=by omega
       have j3:kk<l.length:=by omega
       have j4:IntKind.i64.wrap (kk:Int)=(kk:Int):=by rw [IntKind.wrap_i64];omega
       have j5:(0:Int)<(kk:Int)+1:=by omega
       have hcmp:=fun m=>vE _ _ _ _ (w2.drewN m) (show RdB (w2.drewN m) _ _ from hqr2) (show RdB (w2.drewN m) _ _ from hkr)
       have hst2:yT kind Q none (pcs l)=if decide (yD q key<0)=false then 63 else yT kind Q (xH (pcs l) (kk+1+1)) ((pcs l).drop (kk+1+1)):=hst'
       have HST:=Lib.hid hst2;have HPK:=Lib.hid hpk;have HCM:=Lib.hid hcmp;clear hst' hst2 hq hprev hqc hqr hpk hqr2 hkr hcmp hxk;generalize yD q key=oc at*
       by_cases hoc:oc<0
       ·have i1:¬(0:Int)≤oc:=by omega
        go_upto_region 8 with (fail)
        go_region_held3 (fun w'=>w'.cell? (ad.add (kk*5))=some (.slice A0 q.length a0)∧w'.cell? ⟨wr.heap.size,0,none⟩=some (.slice A1 key.length a1))
         (first|exact ⟨hq2,k0⟩)
         (first
          |(go_at_call 130;refine (HCM.out 1).mono ?_;rintro e w7 ⟨rfl,rfl⟩)
          |fail)
        go_wp2_with fail;exact ⟨⟨kk+1+1,by omega,by go_num,Lib.hid (by rw [HST.out,if_neg (by simp [hoc])]),HCX,hA2.drew⟩,by simp [intOf];omega⟩
       ·have i1:(0:Int)≤oc:=by omega
        have henc:kQ kind (pcs l) Q=63:=by
         have:=HST.out
         rw [if_pos (by simp [hoc])] at this;unfold kQ;rw [if_pos (by rw [this];simp),this]
        have HE:=Lib.hid henc;clear henc;go_upto_region 8 with (fail)
        go_region_held3 (fun w'=>w'.cell? (ad.add (kk*5))=some (.slice A0 q.length a0)∧w'.cell? ⟨wr.heap.size,0,none⟩=some (.slice A1 key.length a1))
         (first|exact ⟨hq2,k0⟩)
         (first
          |(go_at_call 130;refine (HCM.out 1).mono ?_;rintro e w7 ⟨rfl,rfl⟩)
          |fail)
        go_wp2_with fail;go_ret2;rw [HE.out];exact ⟨hA2.drew,.inr ⟨HK.out,.inl ⟨by omega,rfl⟩⟩⟩
      ·obtain rfl:k=0:=by omega
       have e0:qW (xH (pcs l) 0) key=true:=rfl;rw [e0,if_neg (by simp)] at hst';have HST:=Lib.hid hst';clear hst' e0;go_upto_region 8 with (fail)
       go_region
       go_wp2_with fail;exact ⟨⟨1,by omega,rfl,Lib.hid HST.out,HCX,hA2.drew⟩,by simp [intOf];omega⟩
     ·have henc:kQ kind (pcs l) Q=62:=by
       rw [if_pos hmy] at hst';unfold kQ;rw [if_pos (by rw [hst'];simp),hst']
      have HE:=Lib.hid henc;rw [hmy];clear hst' hmy henc;go_wp2_with fail;go_ret2;rw [HE.out];exact ⟨hA2,.inr ⟨HK.out,.inl ⟨by omega,rfl⟩⟩⟩
    ·obtain rfl:k=l.length:=by omega
     have hfin:yT kind Q none (pcs l)=0:=by rw [HSC.out,List.drop_of_length_le (by rw [zA];omega)];rfl
     have hokc:∀c∈pcs l,OkC Q c:=fun c hc=>by
      obtain ⟨j,hj,rfl⟩:=List.getElem_of_mem hc;exact HOK.out j (by rw [zA] at hj;exact hj) hj
     have hbg:=gD hQ2 hokc;rw [zA] at hbg;have hpk:∀(i:Nat) (hi:i<(pcs l).length),¬(kind=3∧i=0)→zD kind (pcs l)≤(pcs l)[i].key.length:=fun i hi hn=>(xS (kind:=kind) hi hn).1
     have hsb:zD kind (pcs l)≤131072:=by
      rcases Nat.eq_zero_or_pos (zD kind (pcs l)) with e|e
      ·omega
      ·obtain ⟨i,hi,hn⟩:=jN e;have h2:=hpk i hi hn;have h3:=gU (hokc _ (List.getElem_mem hi)) hQ2;omega
     have hlr:=hl.below hB;have hSh:=g9 kind (.slice A l.length c) l wr hlr;have hTk:=fun W hW=>gB kind (.slice A l.length c) l (zD kind (pcs l)) W hW (by omega) (by omega) hpk;have HF:=Lib.hid hfin;have HO:=Lib.hid hokc;have HPK:=Lib.hid hpk;have hps:z5 kind (pcs l) (zD kind (pcs l))=zS kind (pcs l):=rfl;rw [hps] at hTk;clear hps;obtain ⟨s,hs⟩:∃s,zD kind (pcs l)=s:=⟨_,rfl⟩;rw [hs] at hSh hTk hsb;have HS:=Lib.hid hs;clear hokc hfin hpk HOK HSC hbg hs
     go_upto_if 60 with (first
      |(go_at_call 139;(with_reducible refine hSh.mono ?_);rintro e w1 ⟨rfl,hb1⟩)
      |(go_at_call 138;(with_reducible refine (hTk _ (hlr.below hb1)).mono ?_);rintro e w2 ⟨rfl,hb2⟩)
      |fail)
     have hB2:=hB.trans ((hb1.trans (hb2.mono hb1.size)).mono hB.size);clear hSh hTk hb1 hb2 hlr hB
     by_cases hsz:zS kind (pcs l)≤Q
     ·have hE:kQ kind (pcs l) Q=0:=qH.2 ⟨HF.out,hsz⟩;have HE:=Lib.hid hE;have HZ:=Lib.hid hsz;have hft:=zDP hsz
      have ha0:a0K kind (pcs l)=6+s+2*l.length:=by unfold a0K;rw [HS.out,zA]
      have i1:¬(Q:Int)<(zS kind (pcs l):Int):=by omega
      have p1:(0:Int)<(Q:Int):=by omega
      have p2:(1:Int)<(Q:Int):=by omega
      have hkb:IntKind.u8.wrap kind=((u8I kind).toNat:Int):=by
       have h:=HKD.out;unfold u8I;rw [IntKind.wrap_u8,UInt8.toNat_ofNat'];omega
      have hnQ:6+s+2*l.length+4≤Q:=by omega
      have hwn:IntKind.u64.wrap (l.length:Int)=(l.length:Int):=IntWalk.u64_in _ (by omega);have hws:IntKind.u64.wrap (s:Int)=(s:Int):=IntWalk.u64_in _ (by omega);have HFT:=Lib.hid hft;have HA0:=Lib.hid ha0;clear hE hsz hft ha0 HF;go_upto_region 15 with (first|(at_make;refine bQ rfl (.tmp 61) (.tmp 61) rfl _ Q rfl rfl rfl (by omega) ?_;intro w3 hb3 hw3 hs3)|fail);have hg3:w.heap.size≤w2.heap.size:=hB2.size;have hB3:=hB2.trans (hw3.mono hB2.size);clear hs3 hw3;obtain ⟨g,hg⟩:∃g,w2.heap.size=g:=⟨_,rfl⟩;rw [hg] at hb3 hg3⊢;clear hg hB2
      go_cut [] (fun wx=>OBlk wx g 5 (bvs (zEQ kind Q))∧Below w.heap.size w wx)
      case first=>
       have z0:w3.cell? ⟨g,0,none⟩=some (.int .u8 0):=hb3.cell' (by rw [jZ,List.getElem?_replicate];simp;omega);have z1:w3.cell? ⟨g,1,none⟩=some (.int .u8 0):=hb3.cell' (by rw [jZ,List.getElem?_replicate];simp;omega);have f0:w3.frozen? ⟨g,0,none⟩=false:=hb3.frozen (by rw [yO,List.length_replicate];omega);have f1:w3.frozen? ⟨g,1,none⟩=false:=hb3.frozen (by rw [yO,List.length_replicate];omega);go_wp2_with fail;go_meet;have e0:=(hb3.set 0 (bv (u8I kind))).set 1 (bv 2);rw [show bv (u8I kind)=Value.int .u8 ((u8I kind).toNat:Int) from rfl,show bv 2=Value.int .u8 ((2:UInt8).toNat:Int) from rfl,←g7,←g7] at e0;exact ⟨e0,(hB3.setCell hg3 _).setCell hg3 _⟩
      case rest=>
       obtain ⟨hb4,hB4⟩:=hcut;clear hb3 hB3 p1 p2 hkb;have l4:=aO kind Q
       have n1:¬Q=2:=by omega
       have n2:(2:Int)≤(Q:Int):=by omega
       go_upto_region 16 with (fail)
       go_cut [] (fun wx=>OBlk wx g 5 (bvs (zAF kind (pcs l) Q))∧Below w.heap.size w wx)
       case first=>
        go_region_held3 (fun _=>True) (trivial)
         (first
          |(go_at_call 141;(with_reducible refine (bT l.length (by omega) _).mono ?_);rintro e w7 ⟨rfl,hf7,hw7,hs7⟩)
          |(refine xF (by rfl) (.tmp 70) (.tmp 74) (by rfl) _ (Q-2) (Q-2) g 2 (by rfl) _ ((hb4.drew).below hw7 (by have:=hb4.lt;simpa using this)) (fun _=>rfl) (by rw [l4];omega) _ (zI l.length 2) (by rfl) (hf7.rdB (zE _ 2) (by omega)) ?_;intro w8 hb8 hg8)
          |fail)
        go_wp2_with fail;go_meet;rw [Nat.min_eq_left (by rw [zE];omega),List.take_length,←zA l,zC3 hQ1] at hb8;exact ⟨hb8,(hB4.drew.trans (hw7.mono hB4.size)).grown hg8 (Nat.le_trans hB4.size hw7.size) (fun k hk=>(Option.some.inj hk)▸hg3)⟩
       case rest=>
        obtain ⟨hb5,hB5⟩:=hcut;clear hb4 hB4 l4 n1 n2 hwn;have l5:=oZ (kind:=kind) (l:=pcs l) hQ1
        have n1:¬Q=4:=by omega
        have n2:(4:Int)≤(Q:Int):=by omega
        go_upto_region 17 with (fail)
        go_cut [] (fun wx=>OBlk wx g 5 (bvs (lV kind (pcs l) Q))∧Below w.heap.size w wx)
        case first=>
         go_region_held3 (fun _=>True) (trivial)
          (first
           |(go_at_call 141;(with_reducible refine (bT s (by omega) _).mono ?_);rintro e w7 ⟨rfl,hf7,hw7,hs7⟩)
           |(refine xF (by rfl) (.tmp 77) (.tmp 80) (by rfl) _ (Q-4) (Q-4) g 4 (by rfl) _ ((hb5.drew).below hw7 (by have:=hb5.lt;simpa using this)) (fun _=>rfl) (by rw [l5];omega) _ (zI s 2) (by rfl) (hf7.rdB (zE _ 2) (by omega)) ?_;intro w8 hb8 hg8)
           |fail)
         go_wp2_with fail;go_meet;rw [Nat.min_eq_left (by rw [zE];omega),List.take_length,←HS.out,zC5 hQ1] at hb8;exact ⟨hb8,(hB5.drew.trans (hw7.mono hB5.size)).grown hg8 (Nat.le_trans hB5.size hw7.size) (fun k hk=>(Option.some.inj hk)▸hg3)⟩
        case rest=>
         obtain ⟨hb6,hB6⟩:=hcut;clear hb5 hB5 l5 n1 n2 hws
         go_upto_if 83 with (fail)
         go_cut [] (fun wx=>OBlk wx g 5 (bvs (qF kind (pcs l) Q 0))∧Below w.heap.size w wx)
         case first=>
          by_cases hs0:s=0
          ·have i2:¬(0:Int)<(s:Int):=by omega
           have e:=zDT HZ.out (by rw [HS.out];exact hs0);rw [e] at hb6;clear e hs0;go_wp2_with fail;go_meet;exact ⟨hb6,hB6⟩
          ·have i2:(0:Int)<(s:Int):=by omega
           obtain ⟨j,hj,hjn⟩:=jN (kind:=kind) (l:=pcs l) (by rw [HS.out];omega);rw [zA] at hj;obtain ⟨m,hm1⟩:∃m,l.length=m+1:=⟨l.length-1,by omega⟩
           have hlt:m<l.length:=by omega
           have hkm:=HPK.out m (by rw [zA];exact hlt) (fun h=>hjn ⟨h.1,by omega⟩)
           have hpf:xE kind (pcs l)=((pcs l)[m]'(by rw [zA];exact hlt)).key.take (zD kind (pcs l)):=by
            unfold xE
            have e:(pcs l).getLast? =some ((pcs l)[m]'(by rw [zA];exact hlt)):=by
             have e9:(pcs l).length-1=m:=by rw [zA];omega
             rw [List.getLast?_eq_getElem?,e9];exact List.getElem?_eq_getElem _
            rw [e]
           rw [HS.out,zV hlt] at hkm hpf;obtain ⟨ad,rfl,c0w,_,_,_,_⟩:=hl.at_ hlt;have hbk:=World.block_lt_of_cell? w _ c0w;have c0:=(hB6.cell hbk).trans c0w;clear c0w;have hx:=(hl.below hB6).ok _ (List.getElem_mem hlt);generalize l[m]=x at*;obtain ⟨A1,a1,B1,b1,key,ck,val,pg,ct,rfl,_,_⟩:=CV.form hx;simp only at hkm hpf c0;have hxk:RdB _ (.slice A1 key.length a1) key:=hx.k;obtain ⟨A7,c7,hrun,hrd⟩:=hxk.run_h s hkm
           have j1:(0:Int)≤(l.length:Int)-1:=by omega
           have j2:(l.length:Int)-1<(l.length:Int):=by omega
           have j3:((l.length:Int)-1).toNat=m:=by omega
           have j4:IntKind.i64.wrap ((l.length:Int)-1)=(l.length:Int)-1:=by rw [IntKind.wrap_i64];omega
           have j5:(1:Int)≤(l.length:Int):=by omega
           have j6:0<l.length:=by omega
           have j7:l.length-1=m:=by omega
           have n1:¬Q=6:=by omega
           have n2:(6:Int)≤(Q:Int):=by omega
           have hkl:(key.take s).length=s:=by rw [List.length_take];omega
           have HKL:=Lib.hid hkl;have HPF:=Lib.hid hpf;have l6:=aR (kind:=kind) (l:=pcs l) hQ1;have HM:=Lib.hid hm1;clear hkl hpf hm1 hs0 hjn hx hxk;generalize key.take s=kt at*;go_upto_region 19 with (fail)
           go_region_held3 (fun w'=>w'.cell? (ad.add (m*5))=some (.slice A1 key.length a1))
            (first
             |exact c0
             |exact hg8.cell c0 (by simp;omega))
            (first
             |(refine xF (by rfl) (.tmp 85) (.tmp 94) (by rfl) _ (Q-6) (Q-6) g 6 (by rfl) _ hb6.drew (fun _=>rfl) (by rw [l6];omega) _ kt (by rfl) hrd.drew ?_;intro w8 hb8 hg8)
             |fail)
           go_wp2_with fail;go_meet;rw [Nat.min_eq_left (by rw [HKL.out];omega),List.take_length,←HPF.out,t7 HZ.out] at hb8;exact ⟨hb8,hB6.drew.grown hg8 hB6.size (fun k hk=>(Option.some.inj hk)▸hg3)⟩
         case rest=>
          obtain ⟨hb7,hB7⟩:=hcut;clear hb6 hB6;go_wp2_with fail
          go_loopw [12,104] (fun a i wr=>∃k:Nat,k≤l.length∧i= .int .i64 (k:Int)∧a= .int .i64 ((a0K kind (pcs l)+(jS kind (pcs l) k).length:Nat):Int)∧OBlk wr g 5 (bvs (qF kind (pcs l) Q k))∧Below w.heap.size w wr) (fun _ i _=>l.length-(intOf i).toNat)
          case atStart=>exact ⟨0,Nat.zero_le _,rfl,by rw [sK,HA0.out];simp only [List.length_nil];go_num,hb7,hB7⟩
          case round=>
           clear hb7 hB7;obtain ⟨k,hk,rfl,rfl,hb,hB⟩:=hrel
           by_cases hlt:k<l.length
           ·have ik:(k:Int)<(l.length:Int):=by omega
            have hlp:k<(pcs l).length:=by rw [zA];exact hlt
            have hcs:=zAN (kind:=kind) (P:=Q) hlp;have hcc:=uZ HZ.out hlp;have hbs:=congrArg List.length (rG (kind:=kind) hlp);have hbl:=mP (kind:=kind) (show k+1≤(pcs l).length from hlp);rw [List.length_append] at hbs;rw [zV hlt] at hcc hbs;rw [HS.out] at hcs hcc hbs;rw [HS.out] at hbl;have hft:=HFT.out;rw [HS.out] at hft;have hlc:=mJ HZ.out (Nat.le_of_lt hlp);have hlm:=oH HZ.out hlp;have hoc:=HO.out _ (show l[k].c∈pcs l by rw [←zV hlt];exact List.getElem_mem _);have hpk:=HPK.out k hlp;rw [HS.out,zV hlt] at hpk;obtain ⟨ad,rfl,c0,c1,c2,c3,c4⟩:=(hl.below hB).at_ hlt;have hx:=(hl.below hB).ok _ (List.getElem_mem hlt);have hx0:=hl.ok _ (List.getElem_mem hlt);generalize l[k]=x at*;obtain ⟨A1,a1,B1,b1,key,ck,val,pg,ct,rfl,_,_⟩:=CV.form hx;have hwr:=fun W hW=>wX Q hQ2 kind k ⟨.slice A1 key.length a1,.slice B1 val.length b1,⟨key,ck,val,pg,ct⟩⟩ s W hW hoc hpk;unfold zJ at hwr;have hA0:Below wr.heap.size wr (wr.alloc (.cells #[.slice A1 key.length a1,.int .i64 ck,.slice B1 val.length b1,.int .i64 pg,.int .i64 ct] 43)):=(Below.refl wr.heap.size wr).alloc (Nat.le_refl _) _;have hA:=hB.trans (hA0.mono hB.size);have hbA:=hb.alloc (.cells #[.slice A1 key.length a1,.int .i64 ck,.slice B1 val.length b1,.int .i64 pg,.int .i64 ct] 43);have hcb:=OBlk.new' wr 43 [.slice A1 key.length a1,.int .i64 ck,.slice B1 val.length b1,.int .i64 pg,.int .i64 ct];have hgl:=hb.lt;simp only at hcc hbs hwr;generalize pcF kind k ⟨key,ck,val,pg,ct⟩ s=pl at*
            have hq:a0K kind (pcs l)+(jS kind (pcs l) (k+1)).length=(a0K kind (pcs l)+(jS kind (pcs l) k).length)+pl.length:=by omega
            have hqP:(a0K kind (pcs l)+(jS kind (pcs l) k).length)+pl.length+4≤Q:=by omega
            have HQ:=Lib.hid hq;have HCC:=Lib.hid hcc;have HLC:=Lib.hid hlc;have HLM:=Lib.hid hlm;have HCS:=Lib.hid hcs
            have hsk:6+s+2*k+2≤Q:=by omega
            generalize a0K kind (pcs l)+(jS kind (pcs l) k).length=q at*;clear hbs hbl hft hlc hlm hcs hcc hq hB hb hoc hx hpk
            have m1:(0:Int)≤(6:Int)+(s:Int)+2*(k:Int):=by omega
            have m2:(6:Int)+(s:Int)+2*(k:Int)≤(Q:Int):=by omega
            have m3:((6:Int)+(s:Int)+2*(k:Int)).toNat=6+s+2*k:=by omega
            have m4:¬Q=6+s+2*k:=by omega
            have m5:IntKind.i64.wrap (2*(k:Int))=2*(k:Int):=by rw [IntKind.wrap_i64];omega
            have m6:IntKind.i64.wrap ((6:Int)+(s:Int))=(6:Int)+(s:Int):=by rw [IntKind.wrap_i64];omega
            have m7:IntKind.i64.wrap ((6:Int)+(s:Int)+2*(k:Int))=(6:Int)+(s:Int)+2*(k:Int):=by rw [IntKind.wrap_i64];omega
            have m8:IntKind.u64.wrap (q:Int)=(q:Int):=IntWalk.u64_in _ (by omega)
            have m9:(q:Int)≤(Q:Int):=by omega
            have m10:¬Q=q:=by omega
            go_upto_region 24 with (fail)
            go_cut [] (fun wx=>OBlk wx g 5 (bvs (o0 kind (pcs l) Q k))∧OBlk wx wr.heap.size 43 [.slice A1 key.length a1,.int .i64 ck,.slice B1 val.length b1,.int .i64 pg,.int .i64 ct]∧Below w.heap.size w wx)
            case first=>
             go_region_held3 (fun _=>True) (trivial)
              (first
               |(go_at_call 141;(with_reducible refine (bT q (by omega) _).mono ?_);rintro e w7 ⟨rfl,hf7,hw7,hs7⟩)
               |(refine xF (by rfl) (.tmp 115) (.tmp 118) (by rfl) _ (Q-(6+s+2*k)) (Q-(6+s+2*k)) g (6+s+2*k) (by rfl) _ ((hbA.drew).below hw7 (by have:=hbA.lt;simpa using this)) (fun _=>rfl) (by rw [HLC.out];omega) (.slice (some ⟨wr.heap.size+1,0,none⟩) 2 2) (zI q 2) (by rfl) (by have h:=hf7.rdB (zE q 2) (by omega);simp at h;exact h) ?_;intro w8 hb8 hg8)
               |fail)
             go_wp2_with fail;go_meet;rw [Nat.min_eq_left (by rw [zE];omega),List.take_length,HCS.out] at hb8;exact ⟨hb8,((hcb.drew).below hw7 (by simp)).grown hg8 (by simp only [ne_eq,Option.some.injEq];omega),(hA.drew.trans (hw7.mono hA.size)).grown hg8 (Nat.le_trans hA.size hw7.size) (fun k hk=>(Option.some.inj hk)▸hg3)⟩
            case rest=>
             obtain ⟨hb8,hcb8,hB8⟩:=hcut;clear hbA hcb hA hA0 c0 c1 c2 c3 c4 m1 m2 m3 m4 m5 m6 m7;have hmin:min pl.length (Q-q)=pl.length:=Nat.min_eq_left (by omega)
             have hq3:IntKind.i64.wrap ((q:Int)+(pl.length:Int))=(q:Int)+(pl.length:Int):=by rw [IntKind.wrap_i64];omega
             go_upto_region 25 with (fail);obtain ⟨c0,c1,c2,c3,c4⟩:=zC hcb8;have hcz:=hcb8.lt
             go_region_held3 (fun w'=>w'.cell? ⟨wr.heap.size,0,none⟩=some (.slice A1 key.length a1)∧w'.cell? ⟨wr.heap.size,1,none⟩=some (.int .i64 ck)∧w'.cell? ⟨wr.heap.size,2,none⟩=some (.slice B1 val.length b1)∧w'.cell? ⟨wr.heap.size,3,none⟩=some (.int .i64 pg)∧w'.cell? ⟨wr.heap.size,4,none⟩=some (.int .i64 ct))
              (first
               |exact ⟨c0,c1,c2,c3,c4⟩
               |exact zC (hcb8.drew.below hw9 hcb8.lt)
               |exact zC ((hcb8.drew.below hw9 hcb8.lt).grown hg10 (by simp only [ne_eq,Option.some.injEq];omega)))
              (first
               |(go_at_call 142;refine (hwr _ (hx0.below hB8.drew)).mono ?_;rintro e w9 ⟨v9,rfl,ho9,hw9⟩)
               |(refine xF (by rfl) (.tmp 123) (.tmp 128) (by rfl) _ (Q-q) (Q-q) g q (by rfl) _ (hb8.drew.below hw9 hb8.lt) (fun _=>rfl) (by rw [HLM.out];omega) v9 pl (by rfl) ho9.rd ?_;intro w10 hb10 hg10)
               |fail)
             go_wp2_with fail;rw [hmin,List.take_length,HCC.out] at hb10;go_roundw
             case rel=>exact ⟨k+1,by omega,by go_num,by rw [HQ.out];go_num,hb10,(hB8.drew.trans (hw9.mono hB8.size)).grown hg10 (Nat.le_trans hB8.size hw9.size) (fun k hk=>(Option.some.inj hk)▸hg3)⟩
             case measure=>simp [intOf];omega
           ·obtain rfl:k=l.length:=by omega
            obtain ⟨hce1,hce2⟩:=zCF HZ.out;have hlc:(qF kind (pcs l) Q l.length).length=Q:=mJ HZ.out (by rw [zA];omega);rw [zA] at hce1 hce2;have HL:=Lib.hid hlc;have HC1:=Lib.hid hce1;have HC2:=Lib.hid hce2;have hsl:jQ (vT kind (pcs l) Q)<4294967296:=rA _;obtain ⟨en,hen⟩:∃en:Nat,en+4=Q:=⟨Q-4,by omega⟩
            have he:(Q:Int)-4=(en:Int):=by omega
            have hws:IntKind.u64.wrap ((jQ (vT kind (pcs l) Q):Nat):Int)=((jQ (vT kind (pcs l) Q):Nat):Int):=IntWalk.u64_in _ (by omega)
            have hp3:(512:Int)≤(Q:Int):=by omega
            have hp4:(Q:Int)≤65536:=by omega
            have b1:(0:Int)≤(en:Int):=by omega
            have b2:(en:Int)≤(Q:Int):=by omega
            have b3:en≤Q:=by omega
            have b6:IntKind.i64.wrap (en:Int)=(en:Int):=by rw [IntKind.wrap_i64];omega
            have HEN:=Lib.hid hen
            have b4:en<Q:=by omega
            have b5:¬(Q=en):=by omega
            rw [show Q-4=en by omega] at HC1 HC2;clear hen hce1 hce2 hlc;generalize qF kind (pcs l) Q l.length=L at*
            have hbd:RdB wr (.slice (some ⟨g,0,none⟩) en Q) (vT kind (pcs l) Q):=by
             have:=RdB.slice0 (n:=en) hb (by rw [HL.out];exact b3) HL.out (by omega)
             rw [HC1.out] at this;exact this
            generalize vT kind (pcs l) Q=M at*;go_wp2_with fail
            go_region_held3 (fun _=>True) (trivial)
             (first
              |(go_at_call 143;(with_reducible refine (zBK _ [M] _ ?_).mono ?_);(exact RdL.one hbd.drew _);rintro e w7 ⟨rfl,hw7⟩)
              |(go_at_call 141;(with_reducible refine (rF (jQ M) (by omega) _).mono ?_);rintro e w9 ⟨rfl,hf9,hw9,hs9⟩)
              |(refine xF (by rfl) (.tmp 135) (.tmp 143) (by rfl) _ (Q-en) (Q-en) g en (by rfl) L ((((hb.alloc _).drew).below hw7 (by have:=hb.lt;simp;omega)).below hw9 (by have:=hb.lt;have:=hw7.size;simp at this;omega)) (fun _=>rfl) (by rw [HL.out];omega) (.slice (some ⟨w7.heap.size,0,none⟩) 4 4) (zI (jQ M) 4) (by rfl) (hf9.rdB (zE _ 4) (by omega)) ?_;intro w8 hb8 hg8)
              |fail)
            go_wp2_with fail;go_ret2;rw [Nat.min_eq_left (by rw [zE];have:=HEN.out;omega),List.take_length,HC2.out] at hb8;have hb7:Below w.heap.size w w7:=((hB.alloc hB.size _).drew).trans (hw7.mono (by have:=hB.size;simp;omega));have hb9:Below w.heap.size w w9:=hb7.trans (hw9.mono hb7.size);exact ⟨hb9.grown hg8 hb9.size (fun j hj=>(Option.some.inj hj)▸hg3),.inr ⟨HK.out,.inr ⟨HE.out,g,rfl,hg3,hb8⟩⟩⟩
     ·have hE:kQ kind (pcs l) Q=61:=by
       unfold kQ;rw [if_neg (by rw [HF.out];simp),if_pos (by omega)]
      have HE:=Lib.hid hE
      have i1:(Q:Int)<(zS kind (pcs l):Int):=by omega
      clear hE hsz;go_wp2_with fail;go_ret2;rw [HE.out];exact ⟨hB2,.inr ⟨HK.out,.inl ⟨by omega,rfl⟩⟩⟩
end Go.Proofs.YtfcnkpofcekmgaaGreat
