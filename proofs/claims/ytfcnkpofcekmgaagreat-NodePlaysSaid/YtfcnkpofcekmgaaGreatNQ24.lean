/- Texts joined. -/
import Derived.Test.YtfcnkpofcekmgaaGreatNQ23
import Derived.Laws.Cover1
set_option maxRecDepth 100000
set_option maxHeartbeats 64000000
namespace Go.Proofs.YtfcnkpofcekmgaaGreat
open Go.RowKit
theorem OwB.below2 {w w':World} {b:Nat} {v:Value} {l:List UInt8} (h:OwB w b v l) (hb:Below w.heap.size w w'):OwB w' b v l:=Own.below' h hb (Nat.le_refl _)
theorem cU (n:Nat) (hn:n<18446744073709551616) (w:World):Calls Tryz.prog 117 #[.int .u64 n,.int .i64 2] w fun e w'=>∃v,e= .returned v∧OwB w' w.heap.size v (zI n 2)∧Below w.heap.size w w':=
 bY n hn 2 (by omega) (by omega) w
def zHF (w:World) (l:List UInt8) (e:Ending) (w':World):Prop:=∃v,e= .returned v∧OwB w' w.heap.size v l∧Below w.heap.size w w'
theorem pE (P:Nat) (hP:P≤65536) (x:CV) (w:World) (hx:x.ok w) (hok:OkC P x.c):Calls Tryz.prog 118 #[zJ x] w (zHF w (jR x.c)):=by
 have k0:=hok.k0;have kd:=hok.kd;have v0:=hok.v0;have v1:=hok.v1;obtain ⟨A,ca,B,cb,key,ck,val,pg,ct,rfl,_,_⟩:=CV.form hx;have hxk:RdB w (.slice A key.length ca) key:=hx.k;have hxv:RdB w (.slice B val.length cb) val:=hx.v;simp only at k0 kd v0 v1;have hA:Below w.heap.size w (w.alloc (.cells #[.slice A key.length ca,.int .i64 ck,.slice B val.length cb,.int .i64 pg,.int .i64 ct] 43)):=(Below.refl _ _).alloc (Nat.le_refl _) _;have hcb:=OBlk.new' w 43 [.slice A key.length ca,.int .i64 ck,.slice B val.length cb,.int .i64 pg,.int .i64 ct];unfold zJ;clear hx hok;go_enter Tryz.func118,Tryz.ntmps118;go_upto_region 1 with (fail);generalize w.alloc (.cells #[.slice A key.length ca,.int .i64 ck,.slice B val.length cb,.int .i64 pg,.int .i64 ct] 43)=w0 at*;obtain ⟨kn,rfl⟩:=Int.eq_ofNat_of_zero_le (show 0≤ck by omega)
 have hkb:((kn:Nat):Int)%256=((UInt8.ofNat kn).toNat:Int):=by rw [UInt8.toNat_ofNat'];omega
 have HKB:=Lib.hid hkb;have k1:=hcb.cell' (j:=1) rfl
 have kn4:kn≤4:=by omega
 have hkw:IntKind.u8.wrap (kn:Int)=(kn:Int):=by rw [IntKind.wrap_u8];omega
 clear hkb;go_upto_region 2 with (fail)
 have hkn:(kn:Int)=((UInt8.ofNat kn).toNat:Int):=by rw [UInt8.toNat_ofNat'];omega
 have ho1:OwB (w0.alloc (.cells #[.int .u8 (kn:Int)] 5)) w.heap.size (.slice (some ⟨w0.heap.size,0,none⟩) 1 1) [UInt8.ofNat kn]:=by
  have h:=(OBlk.new' w0 5 (bvs [UInt8.ofNat kn])).owB' (base:=w.heap.size) (m:= [UInt8.ofNat kn]) hA.size (by simp [maxLen])
  have e:bvs [UInt8.ofNat kn]= [Value.int .u8 (kn:Int)]:=by rw [hkn];rfl
  rw [e] at h;exact h
 have hb01:Below w0.heap.size w0 (w0.alloc (.cells #[.int .u8 (kn:Int)] 5)):=(Below.refl _ _).alloc (Nat.le_refl _) _;have hB1:=hA.trans (hb01.mono hA.size);have hcb1:=hcb.below hb01 hcb.lt;clear hkn hb01 hcb k1;generalize w0.alloc (.cells #[.int .u8 (kn:Int)] 5)=w1 at*;generalize w0.heap.size=g1 at*;have j0:=hcb1.cell' (j:=0) rfl;have hwn:IntKind.u64.wrap (key.length:Int)=(key.length:Int):=IntWalk.u64_in _ (by omega)
 go_upto_region 3 with (first
  |(go_at_call 117;refine (cU key.length (by omega) _).mono ?_;rintro e w2 ⟨v2,rfl,ho2,hb2⟩)
  |(at_builtin;refine yG rfl (.tmp 8) (.tmp 13) rfl w.heap.size _ _ rfl (ho1.below2 hb2) _ _ rfl ho2.rd (by simp [zE]) (Nat.le_trans hB1.size hb2.size) ?_;intro v3 w3 ho3 hg3 hk3)
  |fail)
 have hB2:=hB1.trans (hb2.mono hB1.size);have hB3:=hB2.grown hg3 hB2.size (fun k e=>(Own.lt ho1 k e).1)
 have hl3:([UInt8.ofNat kn]++zI key.length 2).length=3:=by simp [zE]
 obtain ⟨g3,c3,hv3⟩:=ho3.some' hl3 (by omega);subst hv3;have hcb3:OBlk w3 w.heap.size 43 _:=(hcb1.below hb2 hcb1.lt).grown hg3 (fun e=>OwB.ne_blk (ho1.below2 hb2) (hcb1.below hb2 hcb1.lt) (by decide) e);clear hcb1 ho1 ho2 hb2 hg3 hk3 hB1 hB2 j0 hwn;have j0:=hcb3.cell' (j:=0) rfl;have hk3:=hxk.below hB3 (Nat.le_refl _)
 go_upto_region 4 with (first
  |(at_builtin;refine yG rfl (.tmp 15) (.tmp 17) rfl w.heap.size _ _ rfl ho3 _ _ rfl hk3 (by rw [hl3];omega) hB3.size ?_;intro v4 w4 ho4 hg4 hk4)
  |fail)
 have hB4:=hB3.grown hg4 hB3.size (fun k e=>(Own.lt ho3 k e).1);obtain ⟨n4,hl4⟩:∃n,([UInt8.ofNat kn]++zI key.length 2++key).length=n:=⟨_,rfl⟩
 have hn4:n4=3+key.length:=by rw [←hl4,List.length_append,hl3]
 obtain ⟨g4,c4,hv4⟩:=ho4.some' hl4 (by omega);subst hv4;have hcb4:OBlk w4 w.heap.size 43 _:=hcb3.grown hg4 (fun e=>OwB.ne_blk ho3 hcb3 (by decide) e);clear hcb3 ho3 hk3 hg4 hk4 hB3 j0;have j1:=hcb4.cell' (j:=1) rfl;have j2:=hcb4.cell' (j:=2) rfl;have j3:=hcb4.cell' (j:=3) rfl;have j4:=hcb4.cell' (j:=4) rfl;have HL4:=Lib.hid hl4
 have hn4':n4≤140000:=by omega
 clear hl4 hn4
 by_cases hk1:kn=1
 ·subst hk1;obtain ⟨hv0,_,_⟩:=v0 rfl;have HC:Hid (jR ⟨key,((1:Nat):Int),val,pg,ct⟩=([UInt8.ofNat 1]++zI key.length 2++key)++zI val.length 2++val):=Lib.hid (by simp [jR,bI]);have hwn:IntKind.u64.wrap (val.length:Int)=(val.length:Int):=IntWalk.u64_in _ (by omega);have h11:(((1:Nat):Int)==1)=true:=rfl;clear v0 v1 kd
  go_upto_region 6 with (first
   |(go_at_call 117;refine (cU val.length (by omega) _).mono ?_;rintro e w5 ⟨v5,rfl,ho5,hb5⟩)
   |(at_builtin;refine yG rfl (.tmp 22) (.tmp 27) rfl w.heap.size _ _ rfl (ho4.below2 hb5) _ _ rfl ho5.rd (by rw [HL4.out,zE];omega) (Nat.le_trans hB4.size hb5.size) ?_;intro v6 w6 ho6 hg6 hk6)
   |fail)
  have hB5:=hB4.trans (hb5.mono hB4.size);have hB6:=hB5.grown hg6 hB5.size (fun k e=>(Own.lt ho4 k e).1)
  have hl6:([UInt8.ofNat 1]++zI key.length 2++key++zI val.length 2).length=n4+2:=by rw [List.length_append,HL4.out,zE]
  obtain ⟨g6,c6,hv6⟩:=ho6.some' hl6 (by omega);subst hv6;have hcb6:OBlk w6 w.heap.size 43 _:=(hcb4.below hb5 hcb4.lt).grown hg6 (fun e=>OwB.ne_blk (ho4.below2 hb5) (hcb4.below hb5 hcb4.lt) (by decide) e);have hvr:=hxv.below hB6 (Nat.le_refl _);clear hcb4 ho4 ho5 hb5 hg6 hk6 hB4 hB5 j1 j2 j3 j4;have j2:=hcb6.cell' (j:=2) rfl
  go_wp2_with (first
   |(at_builtin;refine yG rfl (.tmp 29) (.tmp 31) rfl w.heap.size _ _ rfl ho6 _ _ rfl hvr (by rw [hl6];omega) hB6.size ?_;intro v7 w7 ho7 hg7 hk7)
   |fail)
  go_ret;rw [HC.out];exact ⟨v7,rfl,ho7,hB6.grown hg7 hB6.size (fun k e=>(Own.lt ho6 k e).1)⟩
 ·have hkf:((kn:Int)==1)=false:=beq_eq_false_iff_ne.2 (by omega);obtain ⟨_,hp1,hp2,hc1,hc2⟩:=v1 (by omega);obtain ⟨pn,rfl⟩:=Int.eq_ofNat_of_zero_le hp1;obtain ⟨cn,rfl⟩:=Int.eq_ofNat_of_zero_le hc1
  have HC:Hid (jR ⟨key,(kn:Int),val,(pn:Int),(cn:Int)⟩=([UInt8.ofNat kn]++zI key.length 2++key)++zI pn 4++zI cn 4):=Lib.hid (by
   have hk2:¬(kn:Int)=1:=by omega
   simp [jR,bI,hk2,List.append_assoc])
  have hpw:IntKind.u64.wrap (pn:Int)=(pn:Int):=IntWalk.u64_in _ (by omega);have hcw:IntKind.u64.wrap (cn:Int)=(cn:Int):=IntWalk.u64_in _ (by omega);clear v0 v1 kd hk1
  go_upto_region 8 with (first
   |(go_at_call 117;refine (rT pn (by omega) _).mono ?_;rintro e w5 ⟨v5,rfl,ho5,hb5⟩)
   |(at_builtin;refine yG rfl (.tmp 33) (.tmp 37) rfl w.heap.size _ _ rfl (ho4.below2 hb5) _ _ rfl ho5.rd (by rw [HL4.out,zE];omega) (Nat.le_trans hB4.size hb5.size) ?_;intro v6 w6 ho6 hg6 hk6)
   |fail)
  have hB5:=hB4.trans (hb5.mono hB4.size);have hB6:=hB5.grown hg6 hB5.size (fun k e=>(Own.lt ho4 k e).1)
  have hl6:([UInt8.ofNat kn]++zI key.length 2++key++zI pn 4).length=n4+4:=by rw [List.length_append,HL4.out,zE]
  obtain ⟨g6,c6,hv6⟩:=ho6.some' hl6 (by omega);subst hv6;have hcb6:OBlk w6 w.heap.size 43 _:=(hcb4.below hb5 hcb4.lt).grown hg6 (fun e=>OwB.ne_blk (ho4.below2 hb5) (hcb4.below hb5 hcb4.lt) (by decide) e);clear hcb4 ho4 ho5 hb5 hg6 hk6 hB4 hB5 j1 j2 j3 j4;have j4:=hcb6.cell' (j:=4) rfl
  go_wp2_with (first
   |(go_at_call 117;refine (rT cn (by omega) _).mono ?_;rintro e w7 ⟨v7,rfl,ho7,hb7⟩)
   |(at_builtin;refine yG rfl (.tmp 39) (.tmp 43) rfl w.heap.size _ _ rfl (ho6.below2 hb7) _ _ rfl ho7.rd (by rw [hl6,zE];omega) (Nat.le_trans hB6.size hb7.size) ?_;intro v8 w8 ho8 hg8 hk8)
   |fail)
  go_ret;rw [HC.out];exact ⟨v8,rfl,ho8,(hB6.trans (hb7.mono hB6.size)).grown hg8 (Nat.le_trans hB6.size hb7.size) (fun k e=>(Own.lt ho6 k e).1)⟩
theorem zAU (c:PC):2+z9 c=if c.kind=1 then 7+c.key.length+c.val.length else 13+c.key.length:=by
 unfold z9;split<;>omega
theorem nX (kind:Int) (v:Value) (l:List CV) (w:World) (hl:RdCs w v l) (hf:Fit (pcs l)):
 Calls Tryz.prog 116 #[.int .i64 kind,v] w fun e w'=>e= .returned (.int .i64 (zW (pcs l):Nat))∧Below w.heap.size w w':=by
 obtain ⟨A,c,rfl,hm,hc⟩:=hl.slice;obtain ⟨hf1,hf2⟩:=hf;have HF2:=Lib.hid hf2;clear hf2;go_enter Tryz.func116,Tryz.ntmps116;go_wp2_with fail
 go_loopw [5,6] (fun n i wr=>∃k:Nat,k≤l.length∧i= .int .i64 (k:Int)∧n= .int .i64 (zW ((pcs l).take k):Nat)∧Below w.heap.size w wr) (fun _ i _=>l.length-(intOf i).toNat)
 case atStart=>exact ⟨0,Nat.zero_le _,rfl,rfl,Below.refl _ _⟩
 case round=>
  obtain ⟨k,hk,rfl,rfl,hB⟩:=hrel
  by_cases hlt:k<l.length
  ·have ik:(k:Int)<(l.length:Int):=by omega
   have hS:=s7 (pcs l) (i:=k) (by rw [zA];exact hlt);have hS1:=cC (pcs l) (k+1);rw [zV hlt,zAU] at hS
   have hmem:l[k].c∈pcs l:=by rw [←zV hlt];exact List.getElem_mem _
   have hkv:=HF2.out _ hmem;obtain ⟨ad,rfl,c0,c1,c2,c3,c4⟩:=(hl.below hB).at_ hlt;have hx:=(hl.below hB).ok _ (List.getElem_mem hlt);generalize l[k]=x at*;obtain ⟨A1,a1,B1,b1,key,ck,val,pg,ct,rfl,_,_⟩:=CV.form hx;simp only at hS hkv;have hAl:Below wr.heap.size wr (wr.alloc (.cells #[.slice A1 key.length a1,.int .i64 ck,.slice B1 val.length b1,.int .i64 pg,.int .i64 ct] 43)):=(Below.refl _ _).alloc (Nat.le_refl _) _;have hB2:=hB.trans (hAl.mono hB.size);have hcb:=OBlk.new' wr 43 [.slice A1 key.length a1,.int .i64 ck,.slice B1 val.length b1,.int .i64 pg,.int .i64 ct];clear hx hmem
   by_cases hk1:ck=1
   ·subst hk1;rw [if_pos rfl] at hS;have HS:=Lib.hid hS
    have hb1:zW ((pcs l).take k)+7+key.length+val.length≤4611686018427387904:=by omega
    clear hS hS1 hkv;generalize zW ((pcs l).take k)=s at*
    have i1:IntKind.i64.wrap ((s:Int)+7)=(s:Int)+7:=by rw [IntKind.wrap_i64];omega
    have i2:IntKind.i64.wrap ((s:Int)+7+(key.length:Int))=(s:Int)+7+(key.length:Int):=by rw [IntKind.wrap_i64];omega
    have i3:IntKind.i64.wrap ((s:Int)+7+(key.length:Int)+(val.length:Int))=(s:Int)+7+(key.length:Int)+(val.length:Int):=by rw [IntKind.wrap_i64];omega
    go_upto_region 6 with (fail);generalize wr.alloc (.cells #[.slice A1 key.length a1,.int .i64 1,.slice B1 val.length b1,.int .i64 pg,.int .i64 ct] 43)=w2 at*;obtain ⟨e0,e1,e2,_,_⟩:=zC hcb;go_wp2_with fail;exact ⟨⟨k+1,by omega,by go_num,by rw [HS.out];go_num,hB2⟩,by simp [intOf];omega⟩
   ·have hkf:(ck==1)=false:=beq_eq_false_iff_ne.2 hk1;rw [if_neg hk1] at hS;have HS:=Lib.hid hS
    have hb1:zW ((pcs l).take k)+13+key.length≤4611686018427387904:=by omega
    clear hS hS1 hkv hk1;generalize zW ((pcs l).take k)=s at*
    have i1:IntKind.i64.wrap ((s:Int)+13)=(s:Int)+13:=by rw [IntKind.wrap_i64];omega
    have i2:IntKind.i64.wrap ((s:Int)+13+(key.length:Int))=(s:Int)+13+(key.length:Int):=by rw [IntKind.wrap_i64];omega
    go_upto_region 6 with (fail);generalize wr.alloc (.cells #[.slice A1 key.length a1,.int .i64 ck,.slice B1 val.length b1,.int .i64 pg,.int .i64 ct] 43)=w2 at*;obtain ⟨e0,e1,e2,_,_⟩:=zC hcb;go_wp2_with fail;exact ⟨⟨k+1,by omega,by go_num,by rw [HS.out];go_num,hB2⟩,by simp [intOf];omega⟩
  ·obtain rfl:k=l.length:=by omega
   have e:(pcs l).take l.length=pcs l:=List.take_of_length_le (by rw [zA];omega);rw [e];go_wp2_with fail;go_ret;exact ⟨rfl,hB⟩
theorem fF (p:Int) (w:World):Calls Tryz.prog 107 #[.int .i64 p] w fun e w'=>e= .returned (.bool (zT p))∧w=w':=by
 go_enter Tryz.func107,Tryz.ntmps107;go_wp2_with fail
 go_loopw [3] (fun i wr=>∃j:Nat,j≤8∧i= .int .i64 (pw j)∧Hid (∀k,k<j→p≠pw k)∧w=wr) (fun i _=>(131072-intOf i).toNat)
 case atStart=>exact ⟨0,by omega,rfl,Lib.hid (by omega),rfl⟩
 case round=>
  obtain ⟨j,hj,rfl,HN,rfl⟩:=hrel;rcases (by omega:j=8∨j<8) with rfl|hlt
  ·have HV:=Lib.hid (show zT p=false from decide_eq_false fun h=>by
    obtain ⟨k,hk,e⟩:=(mR p).1 h
    exact HN.out k hk e)
   have e8:pw 8=131072:=by decide
   rw [e8];go_wp2_with fail;go_ret;rw [HV.out];exact ⟨rfl,rfl⟩
  ·have hb:512≤pw j∧pw j≤65536∧pw (j+1)=2*pw j:=by
    rcases (by omega:j=0∨j=1∨j=2∨j=3∨j=4∨j=5∨j=6∨j=7) with rfl|rfl|rfl|rfl|rfl|rfl|rfl|rfl<;>decide
   obtain ⟨h1,h2,h3⟩:=hb
   by_cases hp:p=pw j
   ·have HV:=Lib.hid (show zT p=true from decide_eq_true ((mR p).2 ⟨j,hlt,hp⟩))
    have hb:(pw j==p)=true:=by simp [hp]
    clear hp h3;generalize pw j=x at*;go_wp2_with fail;go_ret;rw [HV.out];exact ⟨rfl,rfl⟩
   ·have HN2:=Lib.hid (show ∀k,k<j+1→p≠pw k from fun k hk=>by
     rcases (by omega:k<j∨k=j) with h|rfl
     ·exact HN.out k h
     ·exact hp)
    have hb:(pw j==p)=false:=by
     rw [Bool.eq_false_iff];simp only [ne_eq,beq_iff_eq];exact fun e=>hp e.symm
    have H3:=Lib.hid h3;clear hp h3;generalize hx:pw j=x at*;clear hx;go_wp2_with fail;go_roundw
    case rel=>exact ⟨j+1,by omega,by rw [H3.out],HN2,trivial⟩
    case measure=>simp [intOf];omega
def eA (w:World) (kind:Int) (l:List PC) (P:Int) (e:Ending) (w':World):Prop:=
 Below w.heap.size w w'∧((zO kind&&zT P)=false∧e= .returned (.tuple #[.slice none 0 0,.int .i64 1])∨
  (zO kind&&zT P)=true∧((kK kind l P.toNat≠0∧e= .returned (.tuple #[.slice none 0 0,.int .i64 (kK kind l P.toNat)]))∨
   (kK kind l P.toNat=0∧∃v,e= .returned (.tuple #[v,.int .i64 0])∧OwB w' w.heap.size v (yV kind l P.toNat))))
def zKP:Value→Nat
 | .slice _ n _=>n
 |_=>0
theorem tD {w:World} {v:Value} {l:List UInt8} (h:RdB w v l) (n:Nat):(convert 41 9 v).run Tryz.prog (w.drewN n)= .ok (.string ⟨l.toArray⟩) (w.drewN n):=
 yM (w:=w.drewN n) h
theorem cO {B:Nat} {w w':World} (h:Below B w w'):∀n,Below B w (w'.drewN n)
 |0=>h
 |n+1=>(cO h n).drew
theorem fZ (k:Int) (w:World):Calls Tryz.prog 114 #[.int .i64 k] w fun e w'=>e= .returned (.bool (zO k))∧w=w':=by
 by_cases h1:k=2
 ·subst h1;go_enter Tryz.func114,Tryz.ntmps114;go_wp2_with fail;go_ret;exact ⟨rfl,rfl⟩
 ·have e1:(k==2)=false:=beq_eq_false_iff_ne.2 h1
  by_cases h2:k=3
  ·subst h2;go_enter Tryz.func114,Tryz.ntmps114;go_wp2_with fail;go_ret;exact ⟨rfl,rfl⟩
  ·have e2:(k==3)=false:=beq_eq_false_iff_ne.2 h2
   have HK:Hid (zO k=false):=by show _=_;unfold zO;exact decide_eq_false (by omega)
   clear h1 h2;go_enter Tryz.func114,Tryz.ntmps114;go_wp2_with fail;go_ret;rw [HK.out];exact ⟨rfl,rfl⟩
theorem oK (kind:Int) (v:Value) (l:List CV) (P:Int) (w:World) (hl:RdCs w v l) (hn:l.length≤2000000000000):
 Calls Tryz.prog 63 #[.int .i64 kind,v,.int .i64 P] w (eA w kind (pcs l) P):=by
 obtain ⟨A,c,rfl,hm,hc⟩:=hl.slice;have hKi:=fun W=>fZ kind W;have hPa:=fun W=>fF P W
 cases hp:zT P with
 |false=>
  have HK:Hid ((zO kind&&zT P)=false):=by show _=_;rw [hp,Bool.and_false]
  rw [hp] at hPa;clear hp;go_enter Tryz.func63,Tryz.ntmps63;go_wp2_with (first|(go_at_call 107;refine (hPa _).mono ?_;rintro e w1 ⟨rfl,rfl⟩)|fail);go_ret2;exact ⟨Below.refl _ _,.inl ⟨HK.out,rfl⟩⟩
 |true=>
  cases hk:zO kind with
  |false=>
   have HK:Hid ((zO kind&&zT P)=false):=by show _=_;rw [hk];rfl
   rw [hk] at hKi;rw [hp] at hPa;clear hk hp;go_enter Tryz.func63,Tryz.ntmps63;go_wp2_with (first|(go_at_call 107;refine (hPa _).mono ?_;rintro e w1 ⟨rfl,rfl⟩)|(go_at_call 114;refine (hKi _).mono ?_;rintro e w1 ⟨rfl,rfl⟩)|fail);go_ret2;exact ⟨Below.refl _ _,.inl ⟨HK.out,rfl⟩⟩
  |true=>
   have HK:Hid ((zO kind&&zT P)=true):=by show _=_;rw [hk,hp];rfl
   have HKD:=Lib.hid hk;obtain ⟨hP1,hP2⟩:=zZ hp;rw [hk] at hKi;rw [hp] at hPa;clear hp;obtain ⟨Q,rfl⟩:∃Q:Nat,P=(Q:Int):=⟨P.toNat,by omega⟩;unfold eA;rw [show ((Q:Int)).toNat=Q from rfl]
   have hQ1:512≤Q:=by omega
   have hQ2:Q≤65536:=by omega
   have hkd:kind=2∨kind=3:=of_decide_eq_true hk;have HKI:=Lib.hid hkd;clear hk hkd;go_enter Tryz.func63,Tryz.ntmps63;go_wp2_with (first|(go_at_call 107;refine (hPa _).mono ?_;rintro e w1 ⟨rfl,rfl⟩)|(go_at_call 114;refine (hKi _).mono ?_;rintro e w1 ⟨rfl,rfl⟩)|fail);clear hKi hPa
   go_loopw [9] (fun i wr=>∃k:Nat,k≤l.length∧i= .int .i64 (k:Int)∧Hid (yT kind Q none (pcs l)=yT kind Q (xH (pcs l) k) ((pcs l).drop k))∧Hid (∀j (hj:j<k) (hjl:j<(pcs l).length),OkC Q (pcs l)[j])∧Below w.heap.size w wr) (fun i _=>l.length-(intOf i).toNat)
   case atStart=>exact ⟨0,Nat.zero_le _,rfl,Lib.hid rfl,Lib.hid (fun j hj=>by omega),Below.refl _ _⟩
   case round=>
    obtain ⟨k,hk,rfl,HSC,HOK,hB⟩:=hrel
    by_cases hlt:k<l.length
    ·have ik:(k:Int)<(l.length:Int):=by omega
     have hlp:k<(pcs l).length:=by rw [zA];exact hlt
     have hst:=dC (kind:=kind) (P:=Q) hlp;have hpk:=kA (pcs l) hlp;rw [←HSC.out] at hst
     have hcx:∀c,(pcs l)[k]=c→Hid (zQ kind Q c=true→∀j (hj:j<k+1) (hjl:j<(pcs l).length),OkC Q (pcs l)[j]):=fun c hc=>Lib.hid (fun hmay j hj hjl=>by
      by_cases e:j=k
      ·subst e;rw [hc];exact xY hmay
      ·exact HOK.out j (by omega) hjl)
     rw [zV hlt] at hst hpk;have hcx:=hcx _ (zV hlt);obtain ⟨ad,rfl,c0,c1,c2,c3,c4⟩:=(hl.below hB).at_ hlt;have hx:=(hl.below hB).ok _ (List.getElem_mem hlt)
     have hprev:∀q,xH (pcs l) k=some q→∃A0 a0,0<k∧RdB wr (.slice A0 q.length a0) q∧wr.cell? (ad.add ((k-1)*5))=some (.slice A0 q.length a0):=fun q hq=>by
      unfold xH at hq
      split at hq
      ·cases hq
      ·have hk1:k-1<l.length:=by omega
       obtain ⟨_,ea,d0,_⟩:=(hl.below hB).at_ hk1
       cases ea
       have hxp:=(hl.below hB).ok _ (List.getElem_mem hk1)
       have e1:(pcs l).getD (k-1) default=l[k-1].c:=by simp [List.getD,pcs,hk1]
       rw [e1] at hq;injection hq with hq;obtain ⟨A0,a0,he,_⟩:=hxp.k.form;rw [he,hq] at d0;have hk2:=hxp.k;rw [he,hq] at hk2;exact ⟨A0,a0,by omega,hk2,d0⟩
     have hx0:=hx;generalize l[k]=x at*;obtain ⟨A1,a1,B1,b1,key,ck,val,pg,ct,rfl,_,_⟩:=CV.form hx;have hma:=uL kind Q HKI.out hQ2 _ wr hx;have hxk:RdB wr (.slice A1 key.length a1) key:=hx.k
     have hst':yT kind Q none (pcs l)=if zQ kind Q ⟨key,ck,val,pg,ct⟩=false then 62 else if qW (xH (pcs l) k) key=false then 63 else yT kind Q (xH (pcs l) (k+1)) ((pcs l).drop (k+1)):=hst
     have HCX:=Lib.hid hcx.out;unfold zJ at hma;rcases Bool.eq_false_or_eq_true (zQ kind Q ⟨key,ck,val,pg,ct⟩) with hmy|hmy
     ·rw [if_neg (by rw [hmy];simp)] at hst';have HCN:=Lib.hid (HCX.out hmy)
      have hma':Calls Tryz.prog 115 #[.int .i64 kind,.int .i64 (Q:Int),.agg #[.slice A1 key.length a1,.int .i64 ck,.slice B1 val.length b1,.int .i64 pg,.int .i64 ct]] wr fun e w'=>e= .returned (.bool true)∧Below wr.heap.size wr w':=by
       rw [←hmy];exact hma
      clear hma hmy hst hx hx0 hcx;have HST0:=Lib.hid hst';have HPV:=Lib.hid hprev;have HPK0:=Lib.hid hpk;clear hst' hprev hpk;go_upto_region 9 with (first|(go_at_call 115;refine hma'.mono ?_;rintro e w2 ⟨rfl,hb2⟩)|fail);have hB2:=hB.trans (hb2.mono hB.size);have hst':=HST0.out;have hprev:=HPV.out;have hpk:=HPK0.out;clear HST0 HPV HPK0
      by_cases hk0:0<k
      ·obtain ⟨kk,rfl⟩:∃kk,k=kk+1:=⟨k-1,by omega⟩;obtain ⟨q,hq⟩:∃q,xH (pcs l) (kk+1)=some q:=⟨_,kA (pcs l) (by rw [zA];omega)⟩;obtain ⟨A0,a0,_,hqr,hqc⟩:=hprev q hq;rw [hq] at hst';rw [show kk+1-1=kk by omega] at hqc
       have j1:(0:Int)≤(kk:Int):=by omega
       have j2:(kk:Int)<(l.length:Int):=by omega
       have j3:kk<l.length:=by omega
       have j4:IntKind.i64.wrap (kk:Int)=(kk:Int):=by rw [IntKind.wrap_i64];omega
       have j5:(0:Int)<(kk:Int)+1:=by omega
       have j6:(0:Int)≤(kk:Int)+1:=by omega
       have j7:(kk:Int)+1<(l.length:Int):=by omega
       have j8:((kk:Int)+1).toNat=kk+1:=by omega
       have j9:IntKind.i64.wrap ((kk:Int)+1)=(kk:Int)+1:=by rw [IntKind.wrap_i64];omega
       have j10:kk+1<l.length:=by omega
       have hst2:yT kind Q none (pcs l)=if decide (yD q key<0)=false then 63 else yT kind Q (xH (pcs l) (kk+1+1)) ((pcs l).drop (kk+1+1)):=hst'
       have HST:=Lib.hid hst2;have HPK:=Lib.hid hpk;have hbl0:=qO q key;clear hst' hst2 hq hprev hpk;have e1:w2.cell? (ad.add (kk*5))=some (.slice A0 q.length a0):=(hb2.cell (World.block_lt_of_cell? wr _ hqc)).trans hqc;have e2:w2.cell? (ad.add ((kk+1)*5))=some (.slice A1 key.length a1):=(hb2.cell (World.block_lt_of_cell? wr _ c0)).trans c0;have hq2:=hqr.below hb2 (Nat.le_refl _);have hx2:=hxk.below hb2 (Nat.le_refl _);have s1:=fun n=>tD hq2 n;have s2:=fun n=>tD hx2 n;clear hma' hqc c0 c1 c2 c3 c4 hqr hxk hb2
       by_cases hoc:yD q key<0
       ·have hbl:Op.bytesLess q key=true:=by rw [hbl0];exact decide_eq_true hoc
        have hsn:yT kind Q none (pcs l)=yT kind Q (xH (pcs l) (kk+1+1)) ((pcs l).drop (kk+1+1)):=by rw [HST.out,if_neg (by simp [hoc])]
        have HSN:=Lib.hid hsn;clear hbl0 hoc hsn;go_quiet (fail);go_wp2_with fail;exact ⟨⟨kk+1+1,by omega,by go_num,HSN,HCN,cO hB2 _⟩,by simp [intOf];omega⟩
       ·have hbl:Op.bytesLess q key=false:=by rw [hbl0];exact decide_eq_false hoc
        have henc:kK kind (pcs l) Q=63:=by
         have:=HST.out
         rw [if_pos (by simp [hoc])] at this;unfold kK;rw [this];rfl
        have HE:=Lib.hid henc;clear hbl0 hoc henc;go_quiet (fail);go_wp2_with fail;go_ret2;rw [HE.out];exact ⟨cO hB2 _,.inr ⟨HK.out,.inl ⟨by omega,rfl⟩⟩⟩
      ·obtain rfl:k=0:=by omega
       have e0:qW (xH (pcs l) 0) key=true:=rfl;rw [e0,if_neg (by simp)] at hst';have HST:=Lib.hid hst';clear hst' e0;go_quiet (fail);go_wp2_with fail;exact ⟨⟨1,by omega,rfl,HST,HCN,cO hB2 _⟩,by simp [intOf];omega⟩
     ·have henc:kK kind (pcs l) Q=62:=by
       rw [if_pos hmy] at hst';unfold kK;rw [hst'];rfl
      have HE:=Lib.hid henc
      have hma':Calls Tryz.prog 115 #[.int .i64 kind,.int .i64 (Q:Int),.agg #[.slice A1 key.length a1,.int .i64 ck,.slice B1 val.length b1,.int .i64 pg,.int .i64 ct]] wr fun e w'=>e= .returned (.bool false)∧Below wr.heap.size wr w':=by
       rw [←hmy];exact hma
      clear hma hst' hst hmy henc hx hx0 hcx;go_wp2_with (first|(go_at_call 115;refine hma'.mono ?_;rintro e w2 ⟨rfl,hb2⟩)|fail);go_ret2;rw [HE.out];exact ⟨hB.trans (hb2.mono hB.size),.inr ⟨HK.out,.inl ⟨by omega,rfl⟩⟩⟩
    ·obtain rfl:k=l.length:=by omega
     have hall:∀c∈pcs l,OkC Q c:=fun c hc=>by
      obtain ⟨j,hj,rfl⟩:=List.getElem_of_mem hc;exact HOK.out j (by rw [zA] at hj;exact hj) hj
     have hsc:yT kind Q none (pcs l)=0:=by
      rw [HSC.out,List.drop_of_length_le (by rw [zA];omega)];rfl
     have hfit:=sX hall hQ2 (by rw [zA];exact hn);obtain ⟨w1,rfl⟩:∃w1,w1=wr:=⟨_,rfl⟩;have hsz:=nX kind _ l _ (hl.below hB) hfit;have hS:=hfit.1;have hSe:=yS (pcs l);rw [zA] at hSe;have HALL:=Lib.hid hall;have HSCZ:=Lib.hid hsc;clear hall hfit hsc HSC HOK;obtain ⟨S,hSS⟩:∃S,zW (pcs l)=S:=⟨_,rfl⟩;rw [hSS] at hsz hS hSe;have HSS:=Lib.hid hSS;clear hSS
     by_cases hbig:Q<S
     ·have henc:kK kind (pcs l) Q=61:=by
       unfold kK;rw [HSCZ.out,if_neg (by simp),if_pos (by rw [HSS.out];exact hbig)]
      have HE:=Lib.hid henc
      have ib:(Q:Int)<(S:Int):=by omega
      clear henc hSe;go_wp2_with (first|(go_at_call 116;refine hsz.mono ?_;rintro e w2 ⟨rfl,hb2⟩)|fail);go_ret2;rw [HE.out];exact ⟨hB.trans (hb2.mono hB.size),.inr ⟨HK.out,.inl ⟨by omega,rfl⟩⟩⟩
     ·have henc:kK kind (pcs l) Q=0:=by
       unfold kK;rw [HSCZ.out,if_neg (by simp),if_neg (by rw [HSS.out];exact hbig)]
      have HE:=Lib.hid henc;have hSQ:Hid (zW (pcs l)≤Q):=Lib.hid (by rw [HSS.out];omega);obtain ⟨B,hBB⟩:∃B,zM (pcs l)=B:=⟨_,rfl⟩;rw [hBB] at hSe;have HBB:=Lib.hid hBB
      have ib:¬((Q:Int)<(S:Int)):=by omega
      have hLB:8+2*l.length+B≤Q:=by omega
      clear henc hBB HSCZ HSS;obtain ⟨kn,rfl⟩:=Int.eq_ofNat_of_zero_le (show 0≤kind by have:=HKI.out;omega)
      have kn4:kn≤4:=by have:=HKI.out;omega
      have hkw:IntKind.u8.wrap (kn:Int)=(kn:Int):=by rw [IntKind.wrap_u8];omega
      go_upto_region 13 with (first|(go_at_call 116;refine hsz.mono ?_;rintro e w2 ⟨rfl,hb2⟩)|fail);have hB2:=hB.trans (hb2.mono hB.size);clear hsz hb2 hSe hS ib hbig;go_upto_region 14 with (fail)
      have hkn:(kn:Int)=((UInt8.ofNat kn).toNat:Int):=by rw [UInt8.toNat_ofNat'];omega
      have ho1:OwB (w2.alloc (.cells #[.int .u8 (kn:Int),.int .u8 1] 5)) w.heap.size (.slice (some ⟨w2.heap.size,0,none⟩) 2 2) [UInt8.ofNat kn,1]:=by
       have h:=(OBlk.new' w2 5 (bvs [UInt8.ofNat kn,1])).owB' (base:=w.heap.size) (m:= [UInt8.ofNat kn,1]) hB2.size (by simp [maxLen])
       have e:bvs [UInt8.ofNat kn,1]= [Value.int .u8 (kn:Int),.int .u8 1]:=by rw [hkn];rfl
       rw [e] at h;exact h
      have hb23:Below w2.heap.size w2 (w2.alloc (.cells #[.int .u8 (kn:Int),.int .u8 1] 5)):=(Below.refl _ _).alloc (Nat.le_refl _) _;have hB3:=hB2.trans (hb23.mono hB2.size);clear hkn hb23;generalize w2.alloc (.cells #[.int .u8 (kn:Int),.int .u8 1] 5)=w3 at*;generalize w2.heap.size=g1 at*;have hwn:IntKind.u64.wrap (l.length:Int)=(l.length:Int):=IntWalk.u64_in _ (by omega)
      go_upto_region 15 with (first
       |(go_at_call 117;refine (cU l.length (by omega) _).mono ?_;rintro e w4 ⟨v4,rfl,ho4,hb4⟩)
       |(at_builtin;refine yG rfl (.tmp 66) (.tmp 70) rfl w.heap.size _ _ rfl (ho1.below2 hb4) _ _ rfl ho4.rd (by simp [zE]) (Nat.le_trans hB3.size hb4.size) ?_;intro v5 w5 ho5 hg5 hk5)
       |fail)
      have hB4:=hB3.trans (hb4.mono hB3.size);have hB5:=hB4.grown hg5 hB4.size (fun k e=>(Own.lt ho1 k e).1);have HH:Hid ([UInt8.ofNat kn,1]++zI l.length 2=kC (kn:Int) (pcs l).length):=Lib.hid (by rw [zA];rfl);rw [HH.out] at ho5;have hl5:(kC (kn:Int) (pcs l).length).length=4:=jD _ _;generalize hhd:kC (kn:Int) (pcs l).length=hd at*;have HHD:=Lib.hid hhd;clear ho1 ho4 hb4 hg5 hk5 hB3 hB4 HH hhd hB2;go_wp2_with fail
      go_loopw [11,12] (fun a i wr=>∃k:Nat,k≤l.length∧i= .int .i64 (k:Int)∧OwB wr w5.heap.size a (yW ((pcs l).take k))∧Below w5.heap.size w5 wr) (fun _ i _=>l.length-(intOf i).toNat)
      case atStart=>exact ⟨0,Nat.zero_le _,rfl,OwB.nil _ _,Below.refl _ _⟩
      case round=>
       obtain ⟨k,hk,rfl,hoa,hbr⟩:=hrel;have hBr:=hB5.trans (hbr.mono hB5.size)
       by_cases hlt:k<l.length
       ·have ik:(k:Int)<(l.length:Int):=by omega
        have hbs:yW ((pcs l).take (k+1))=yW ((pcs l).take k)++jR l[k].c:=by
         rw [List.take_succ_eq_append_getElem (by rw [zA];exact hlt),k7,zV hlt];simp [yW]
        have hbl:(yW ((pcs l).take k)).length+(jR l[k].c).length≤B:=by
         rw [←HBB.out,←List.length_append,←hbs,xQ];have:=qR (pcs l) (k+1);omega
        obtain ⟨ad,rfl,c0,c1,c2,c3,c4⟩:=(hl.below hBr).at_ hlt;have hx:=(hl.below hBr).ok _ (List.getElem_mem hlt);have hok:=HALL.out _ (show l[k].c∈pcs l by rw [←zV hlt];exact List.getElem_mem _);have hca:=pE Q hQ2 l[k] wr hx hok;obtain ⟨cb,hcb⟩:∃cb,jR l[k].c=cb:=⟨_,rfl⟩;rw [hcb] at hca hbs hbl;generalize l[k]=x at*;obtain ⟨A1,a1,B1,b1,key,ck,val,pg,ct,rfl,_,_⟩:=CV.form hx;unfold zJ at hca;have HBS:=Lib.hid hbs;clear hx hok hcb hbs;generalize hbt:yW ((pcs l).take k)=bt at*;clear hbt
        go_wp2_with (first
         |(go_at_call 118;refine hca.mono ?_;rintro e w6 ⟨v6,rfl,ho6,hb6⟩)
         |(at_builtin;refine yG rfl (.tmp 78) (.tmp 83) rfl w5.heap.size _ _ rfl (hoa.below2 hb6) _ _ rfl ho6.rd (by omega) (Nat.le_trans hbr.size hb6.size) ?_;intro v7 w7 ho7 hg7 hk7)
         |fail)
        exact ⟨⟨k+1,by omega,by go_num,by rw [HBS.out];exact ho7,(hbr.trans (hb6.mono hbr.size)).grown hg7 (Nat.le_trans hbr.size hb6.size) (fun g e=>(Own.lt hoa g e).1)⟩,by simp [intOf];omega⟩
       ·obtain rfl:k=l.length:=by omega
        rw [List.take_of_length_le (by rw [zA];omega)] at hoa
        have hbl:(yW (pcs l)).length=B:=by rw [xQ];exact HBB.out
        obtain ⟨bo,hbo⟩:∃bo,yW (pcs l)=bo:=⟨_,rfl⟩;rw [hbo] at hoa hbl;have HBO:=Lib.hid hbo;obtain ⟨AA,ca,rfl⟩:=Own.slice hoa;subst hbl;obtain ⟨w6,rfl⟩:∃w6,w6=wr:=⟨_,rfl⟩;have ho6:=ho5.below2 hbr;have hne6:∀g,(Value.slice AA bo.length ca).ownBlock=some g→some g≠Value.ownBlock _:=fun g e h=>absurd (Own.lt ho5 g h.symm).2 (by have:=(Own.lt hoa g e).1;omega);have hs65:=hbr.size;clear ho5 hbo hbr
        have i1:IntKind.i64.wrap ((Q:Int)-4)=(Q:Int)-4:=by rw [IntKind.wrap_i64];omega
        have i2:IntKind.i64.wrap ((Q:Int)-4-(bo.length:Int))=(Q:Int)-4-(bo.length:Int):=by rw [IntKind.wrap_i64];omega
        have HBase:(Q-4-bo.length)+4+bo.length=Q:=by omega
        generalize hat:Q-4-bo.length=at0 at*;have HAT:Hid (atF (pcs l) Q=at0):=Lib.hid (by unfold atF;rw [HBB.out];exact hat)
        have i3:(Q:Int)-4-(bo.length:Int)=(at0:Int):=by omega
        rw [i3] at i2;clear hat;go_wp2_with fail
        go_loopw [10,13,14] (fun h at_ i wr=>∃k:Nat,k≤l.length∧i= .int .i64 (k:Int)∧at_= .int .i64 ((at0+zM ((pcs l).take k):Nat):Int)∧OwB wr w.heap.size h (hd++yN at0 ((pcs l).take k))∧OwB wr w5.heap.size (.slice AA bo.length ca) bo∧Below w.heap.size w wr∧w5.heap.size≤wr.heap.size∧(∀g,(Value.slice AA bo.length ca).ownBlock=some g→some g≠h.ownBlock)) (fun _ _ i _=>l.length-(intOf i).toNat)
        case atStart=>exact ⟨0,Nat.zero_le _,rfl,rfl,by simpa [yN] using ho6,hoa,hBr,hs65,hne6⟩
        case round=>
         obtain ⟨k,hk,rfl,rfl,hoh,hoa,hBr,hsz5,hne⟩:=hrel
         by_cases hlt:k<l.length
         ·have ik:(k:Int)<(l.length:Int):=by omega
          have hlp:k<(pcs l).length:=by rw [zA];exact hlt
          have hLS:=cQ (pcs l) hlp
          have hSL:yN at0 ((pcs l).take (k+1))=yN at0 ((pcs l).take k)++zI (at0+zM ((pcs l).take k)) 2:=by
           rw [List.take_succ_eq_append_getElem hlp,bH];simp [yN]
          have hLT:=qR (pcs l) (k+1);rw [HBB.out] at hLT
          have hsl:(hd++yN at0 ((pcs l).take k)).length=4+2*k:=by
           rw [List.length_append,x5,hl5,List.length_take,Nat.min_eq_left (by omega)]
          rw [zV hlt] at hLS;have hcl:=kH l[k].c;obtain ⟨ad,rfl,c0,c1,c2,c3,c4⟩:=(hl.below hBr).at_ hlt;have hx:=(hl.below hBr).ok _ (List.getElem_mem hlt);have hok:=HALL.out _ (show l[k].c∈pcs l by rw [←zV hlt];exact List.getElem_mem _);have HCE:=Lib.hid (fun W (hb:Below w.heap.size w W)=>(hl.below hb).at_ hlt);have hca:=fun W (hb:Below w.heap.size w W)=>pE Q hQ2 l[k] W ((hl.below hb).ok _ (List.getElem_mem hlt)) hok;obtain ⟨cb,hcb⟩:∃cb,jR l[k].c=cb:=⟨_,rfl⟩;rw [hcb] at hca hcl;generalize l[k]=x at*;obtain ⟨A1,a1,B1,b1,key,ck,val,pg,ct,rfl,_,_⟩:=CV.form hx;unfold zJ at hca;have HSL:=Lib.hid hSL;rw [←hcl] at hLS;have HLS:=Lib.hid hLS
          have hlt2:zM ((pcs l).take k)+cb.length≤bo.length:=by omega
          clear hx hok hcb hcl hSL hLS hLT;generalize hlg:zM ((pcs l).take k)=lg at*;generalize yN at0 ((pcs l).take k)=sl at*;have hlg':=hlg;clear hlg hlg';have hw1:IntKind.u64.wrap ((at0+lg:Nat):Int)=((at0+lg:Nat):Int):=IntWalk.u64_in _ (by omega)
          have hw2:IntKind.i64.wrap ((at0:Int)+(lg:Int)+(cb.length:Int))=(at0:Int)+(lg:Int)+(cb.length:Int):=by rw [IntKind.wrap_i64];omega
          go_upto_region 25 with (first
           |(go_at_call 117;refine (cU (at0+lg) (by omega) _).mono ?_;rintro e w7 ⟨v7,rfl,ho7,hb7⟩)
           |(at_builtin;refine yG rfl (.tmp 96) (.tmp 99) rfl w.heap.size _ _ rfl (hoh.below2 hb7) _ _ rfl ho7.rd (by rw [hsl,zE];omega) (Nat.le_trans hBr.size hb7.size) ?_;intro v8 w8 ho8 hg8 hk8)
           |fail)
          have hoa7:=hoa.below2 hb7;have hoa8:=hoa7.grown hg8 hne
          have hne8:∀g,(Value.slice AA bo.length ca).ownBlock=some g→some g≠v8.ownBlock:=fun g e h=>by
           rcases hk8 with h'|h'
           ·rw [h'] at h;exact hne g e h
           ·rw [h'] at h;have:=(Own.lt hoa7 g e).2;injection h with h;omega
          have hB8:=(hBr.trans (hb7.mono hBr.size)).grown hg8 (Nat.le_trans hBr.size hb7.size) (fun g e=>(Own.lt hoh g e).1);have hs8:w5.heap.size≤w8.heap.size:=Nat.le_trans hsz5 (Nat.le_trans hb7.size hg8.size);obtain ⟨_,ea,d0,d1,d2,d3,d4⟩:=HCE.out w8 hB8
          cases ea
          have hca8:=hca _ hB8;clear hoh hoa hBr hsz5 hne ho7 hb7 hg8 hk8 hoa7 hca c0 c1 c2 c3 c4 hw1
          go_wp2_with (first
           |(go_at_call 118;refine hca8.mono ?_;rintro e w9 ⟨v9,rfl,ho9,hb9⟩;obtain ⟨A9,c9,rfl⟩:=Own.slice ho9)
           |fail)
          exact ⟨⟨k+1,by omega,by go_num,by rw [HLS.out];go_num,by rw [HSL.out,←List.append_assoc];exact ho8.below2 hb9,hoa8.below2 hb9,hB8.trans (hb9.mono hB8.size),Nat.le_trans hs8 hb9.size,hne8⟩,by simp [intOf];omega⟩
         ·obtain rfl:k=l.length:=by omega
          rw [List.take_of_length_le (by rw [zA];omega)] at hoh
          have hsl:(hd++yN at0 (pcs l)).length=4+2*l.length:=by
           rw [List.length_append,x5,hl5,zA]
          have hge:4+2*l.length≤at0:=by omega
          have HPRE:Hid (∀z,4+2*l.length+z=at0→hd++yN at0 (pcs l)++List.replicate z 0++bo=kO (kn:Int) (pcs l) Q):=Lib.hid (fun z hz=>by
           unfold kO;rw [HAT.out,HBO.out,HHD.out,zA];have hb:=HBB.out;have hat:=HAT.out;unfold atF at hat;rw [show Q-4-zM (pcs l)-4-2*l.length=z by omega]
           simp only [List.append_assoc])
          generalize hd++yN at0 (pcs l)=H at*;obtain ⟨AH,cH,rfl⟩:=Own.slice hoh;obtain ⟨w7,rfl⟩:∃w7,w7=wr:=⟨_,rfl⟩;rw [hsl] at hoh hne;rw [hsl];generalize ((at0+zM ((pcs l).take l.length):Nat):Int)=z13;go_wp2_with fail
          go_loopw [15] (fun b wr=>∃z:Nat,4+2*l.length+z≤at0∧OwB wr w.heap.size b (H++List.replicate z 0)∧OwB wr w5.heap.size (.slice AA bo.length ca) bo∧Below w.heap.size w wr∧(∀g,(Value.slice AA bo.length ca).ownBlock=some g→some g≠b.ownBlock)) (fun b _=>at0-zKP b)
          case atStart=>exact ⟨0,by omega,by simpa using hoh,hoa,hBr,hne⟩
          case round=>
           clear hoh hoa hne;obtain ⟨z,hz,hob,hoa,hBw,hne⟩:=hrel;obtain ⟨Ab,cb,rfl⟩:=Own.slice hob
           have hnl:(H++List.replicate z 0).length=4+2*l.length+z:=by rw [List.length_append,hsl,List.length_replicate]
           have HRZ:Hid (H++List.replicate (z+1) 0=H++List.replicate z 0++ [0]):=Lib.hid (by rw [List.replicate_succ',List.append_assoc]);have HPR:=HPRE.out z;generalize H++List.replicate z 0=bz at*;have HPR:=Lib.hid HPR;obtain ⟨n,hn'⟩:∃n,bz.length=n:=⟨_,rfl⟩;rw [hn'] at hob hne hnl;rw [hn']
           have i4:IntKind.i64.wrap ((n:Int)+(bo.length:Int))=(n:Int)+(bo.length:Int):=by rw [IntKind.wrap_i64];omega
           by_cases hlt:n<at0
           ·have ilt:(n:Int)+(bo.length:Int)<(Q:Int)-4:=by omega
            have hn140:bz.length+1≤140737488355328:=by omega
            clear HPR
            go_wp2_with (first
             |(at_builtin;refine jO rfl (.tmp 118) (.tmp 119) rfl w.heap.size _ _ rfl hob 0 _ rfl 5 rfl hn140 hBw.size ?_;intro v8 w8 ho8 hg8 hk8)
             |fail)
            have hne8:∀g,(Value.slice AA bo.length ca).ownBlock=some g→some g≠v8.ownBlock:=fun g e h=>by
             rcases hk8 with h'|h'
             ·rw [h'] at h;exact hne g e h
             ·rw [h'] at h;have:=(Own.lt hoa g e).2;injection h with h;omega
            obtain ⟨A8,c8,rfl⟩:=Own.slice ho8
            have hl8:(bz++ [(0:UInt8)]).length=n+1:=by rw [List.length_append,hn'];rfl
            exact ⟨⟨z+1,by omega,by rw [HRZ.out];exact ho8,hoa.grown hg8 hne,hBw.grown hg8 hBw.size (fun g e=>(Own.lt hob g e).1),hne8⟩,by show at0-(bz++ [(0:UInt8)]).length<at0-n;rw [hl8];omega⟩
           ·have ilt:¬((n:Int)+(bo.length:Int)<(Q:Int)-4):=by omega
            have hpre:=HPR.out (by omega);have hsl4:jQ (kO (kn:Int) (pcs l) Q)<4294967296:=rA _;have hpl:(kO (kn:Int) (pcs l) Q).length=Q-4:=bG hSQ.out;have HLD:Hid (yV (kn:Int) (pcs l) Q=kO (kn:Int) (pcs l) Q++zI (jQ (kO (kn:Int) (pcs l) Q)) 4):=Lib.hid rfl;clear HPR HRZ
            go_upto_region 30 with (first
             |(at_builtin;refine yG rfl (.tmp 121) (.tmp 122) rfl w.heap.size _ _ rfl hob _ _ rfl hoa.rd (by omega) hBw.size ?_;intro v9 w9 ho9 hg9 hk9)
             |fail)
            have hB9:=hBw.grown hg9 hBw.size (fun g e=>(Own.lt hob g e).1);rw [hpre] at ho9;clear hob hoa hne hg9 hk9 hpre;generalize kO (kn:Int) (pcs l) Q=pre at*;obtain ⟨A9,c9,rfl⟩:=Own.slice ho9;have hso:=wI _ pre w9 ho9.rd
            have hpl2:pre.length+4≤140737488355328:=by omega
            generalize hsm:jQ pre=sm at*;have hsw:IntKind.u64.wrap (sm:Int)=(sm:Int):=IntWalk.u64_in _ (by omega);clear hpl hsm
            go_wp2_with (first
             |(go_at_call 119;refine hso.mono ?_;rintro e w10 ⟨rfl,rfl⟩)
             |(go_at_call 117;refine (rT sm (by omega) _).mono ?_;rintro e w10 ⟨v10,rfl,ho10,hb10⟩)
             |(at_builtin;refine yG rfl (.tmp 126) (.tmp 129) rfl w.heap.size _ _ rfl (ho9.below2 hb10) _ _ rfl ho10.rd (by rw [zE];omega) (Nat.le_trans hB9.size hb10.size) ?_;intro v11 w11 ho11 hg11 hk11)
             |fail)
            go_ret2;refine ⟨(hB9.trans (hb10.mono hB9.size)).grown hg11 (Nat.le_trans hB9.size hb10.size) (fun g e=>(Own.lt ho9 g e).1),.inr ⟨HK.out,.inr ⟨HE.out,v11,rfl,?_⟩⟩⟩;rw [HLD.out];exact ho11
def uC (kind:Int) (l:List PC) (P:Int):Int:=if (zO kind&&zT P)=true then kK kind l P.toNat else 1
def eM (kind:Int) (l:List PC) (P:Int):List UInt8:=if uC kind l P=0 then yV kind l P.toNat else []
theorem zHW (kind:Int) (v:Value) (l:List CV) (P:Int) (w:World) (hl:RdCs w v l) (hn:l.length≤2000000000000):
 Calls Tryz.prog 63 #[.int .i64 kind,v,.int .i64 P] w fun e w'=>∃u,e= .returned (.tuple #[u,.int .i64 (uC kind (pcs l) P)])∧OwB w' w.heap.size u (eM kind (pcs l) P)∧Below w.heap.size w w':=by
 refine (oK kind v l P w hl hn).mono ?_;unfold eA eM uC;rintro e w' ⟨hb,⟨h1,rfl⟩|⟨h1,⟨h2,rfl⟩|⟨h2,u,rfl,ho⟩⟩⟩
 ·rw [if_neg (by rw [h1];simp),if_neg (by decide)];exact ⟨_,rfl,OwB.nil _ _,hb⟩
 ·rw [if_pos h1,if_neg h2];exact ⟨_,rfl,OwB.nil _ _,hb⟩
 ·rw [if_pos h1,if_pos h2,h2];exact ⟨_,rfl,ho,hb⟩
theorem zE9 {kind:Int} {l:List PC} {b:List UInt8}:y8 b kind l↔uC kind l (b.length:Int)=0∧eM kind l (b.length:Int)=b:=by
 unfold y8 eM uC
 constructor
 ·rintro ⟨h1,h2,h3,h4⟩;rw [if_pos (by rw [h1,h2];rfl),if_pos (by exact h3)];exact ⟨h3,h4⟩
 ·rintro ⟨h1,h2⟩
  split at h1
  ·rename_i h3
   rw [if_pos h3,if_pos h1] at h2;rw [Bool.and_eq_true] at h3;exact ⟨h3.2,h3.1,h1,h2⟩
  ·cases h1
section
variable {w0 w:World} {L:List Ent} {r p P:Nat} {kind:Int} {u:Value} {l:List CV}
structure RpAt (w:World) (r:Nat) (kind:Int) (P:Nat) (u:Value) (l:List CV):Prop where
 blk:OBlk w r 116 [.int .i64 kind,.int .i64 (P:Int),u]
 rd:RdCs w u l
theorem Sep.rpAt (hS:Sep w0 w (rpE r kind P u l::L)) (hr:RngC l):RpAt w r kind P u l:=by
 have hS1:=hS.rpOpen;exact ⟨hS1.head,hS1.openRd (u:=u) (l:=l) (by simp) (fun E hE=>by simp [hE]) hr⟩
theorem zFG (h:RpAt w r kind P u l):Calls Tryz.prog 102 #[.pointer (some ⟨r,0,none⟩)] w fun e w'=>e= .returned (.int .i64 (l.length:Int))∧w=w':=by
 obtain ⟨A,c,rfl,hm,hc⟩:=h.rd.slice;obtain ⟨c0,c1,c2⟩:=xC h.blk;go_enter Tryz.func102,Tryz.ntmps102;go_wp2_with fail;go_ret;exact ⟨rfl,rfl⟩
theorem zDC (h:RpAt w r kind P u l) (hk:Wk kind P (pcs l)) (hP:P≤65536):Calls Tryz.prog 104 #[.pointer (some ⟨r,0,none⟩)] w fun e w'=>e= .returned (.int .i64 (zW (pcs l):Nat))∧Below w.heap.size w w':=by
 obtain ⟨A,c,rfl,hm,hc⟩:=h.rd.slice;obtain ⟨c0,c1,c2⟩:=xC h.blk;have hlen:=hk.len hP;rw [zA] at hlen;have hsz:Calls Tryz.prog 116 #[.int .i64 kind,.slice A l.length c] w.drew fun e w'=>e= .returned (.int .i64 (zW (pcs l):Nat))∧Below w.heap.size w.drew w':=nX kind _ l w.drew (h.rd.below ((Below.refl _ _).drew)) (sX (P:=P) (fun c hc=>xY (hk.may c hc)) hP (by rw [zA];omega));have hbl:=h.blk;have hpl:=hbl.lt;have HSZ:=Lib.hid hsz;clear hsz h;go_enter Tryz.func104,Tryz.ntmps104;go_upto_region 1 with (fail)
 go_region_held3 (fun w'=>w'.cell? ⟨r,0,none⟩=some (.int .i64 kind)∧w'.cell? ⟨r,2,none⟩=some (.slice A l.length c))
  (first
   |exact ⟨c0,c2⟩
   |(obtain ⟨f0,_,f2⟩:=xC (hbl.drew.below hw5 hpl);exact ⟨f0,f2⟩))
  (first
   |(go_at_call 116;refine HSZ.out.mono ?_;rintro e w5 ⟨rfl,hw5⟩)
   |fail)
 go_wp2_with fail;go_ret;exact ⟨rfl,(Below.refl _ _).drew.trans hw5⟩
theorem zAV (hS:Sep w0 w (rpE r kind P u l::L)) (hr:RngC l) (hk:Wk kind P (pcs l)) (hkd:zO kind=true) (hPp:zT (P:Int)=true) (hP:P≤65536):
 Calls Tryz.prog 41 #[.pointer (some ⟨r,0,none⟩)] w fun e w'=>∃v,e= .returned v∧Sep w0 w' (zB v (yV kind (pcs l) P)::rpE r kind P u l::L):=by
 have h:=hS.rpAt hr;obtain ⟨A,c,rfl,hm,hc⟩:=h.rd.slice;obtain ⟨c0,c1,c2⟩:=xC h.blk;have hlen:=hk.len hP;rw [zA] at hlen
 have hz:uC kind (pcs l) (P:Int)=0:=by unfold uC;rw [if_pos (by rw [hkd,hPp];rfl)];exact hk.enc
 have hen:=zHW kind _ l (P:Int) w.drew (h.rd.below ((Below.refl _ _).drew)) (by omega);rw [hz,show eM kind (pcs l) (P:Int)=yV kind (pcs l) P by unfold eM;rw [if_pos hz];rfl] at hen;have hbl:=h.blk;have hpl:=hbl.lt;have HEN:=Lib.hid hen;have HS:=Lib.hid hS;clear hen h hz hS;go_enter Tryz.func41,Tryz.ntmps41;go_upto_region 1 with (fail)
 go_region_held3 (fun w'=>w'.cell? ⟨r,0,none⟩=some (.int .i64 kind)∧w'.cell? ⟨r,1,none⟩=some (.int .i64 (P:Int))∧w'.cell? ⟨r,2,none⟩=some (.slice A l.length c))
  (first
   |exact ⟨c0,c1,c2⟩
   |(obtain ⟨f0,f1,f2⟩:=xC (hbl.drew.below hw5 hpl);exact ⟨f0,f1,f2⟩))
  (first
   |(go_at_call 63;refine HEN.out.mono ?_;rintro e w5 ⟨v5,rfl,ho5,hw5⟩)
   |fail)
 go_wp2_with fail;go_ret;exact ⟨v5,rfl,HS.out.drew.bytes hw5 ho5 (Nat.le_refl _)⟩
theorem zGU (hS:Sep w0 w L) (hk:zO kind=true) (hp:zT (P:Int)=true):Calls Tryz.prog 84 #[.int .i64 kind,.int .i64 (P:Int)] w fun e w'=>
 ∃r,e= .returned (.tuple #[.pointer (some ⟨r,0,none⟩),.int .i64 0])∧Sep w0 w' (rpE r kind P (.slice none 0 0) []::L):=by
 have hKi:=fun W=>fZ kind W;have hPa:=fun W=>fF (P:Int) W;rw [hk] at hKi;rw [hp] at hPa;have hS1:=hS.alloc 116 [.int .i64 kind,.int .i64 (P:Int),.slice none 0 0];have HS:=Lib.hid hS1;clear hk hp hS1;go_enter Tryz.func84,Tryz.ntmps84;go_wp2_with (first|(go_at_call 114;refine (hKi _).mono ?_;rintro e w1 ⟨rfl,rfl⟩)|(go_at_call 107;refine (hPa _).mono ?_;rintro e w1 ⟨rfl,rfl⟩)|fail);go_ret2;refine ⟨_,rfl,Sep.rpClose (l:= []) ?_⟩;exact (Sep.nilC HS.out).sw1
theorem zE0 (Q:Int) (hk:(zT Q&&zO kind)=false):Calls Tryz.prog 84 #[.int .i64 kind,.int .i64 Q] w fun e w'=>
 e= .returned (.tuple #[.pointer none,.int .i64 1])∧w=w':=by
 have hKi:=fun W=>fZ kind W;have hPa:=fun W=>fF Q W
 cases hp:zT Q with
 |false=>
  rw [hp] at hPa;clear hp hk;go_enter Tryz.func84,Tryz.ntmps84;go_wp2_with (first|(go_at_call 107;refine (hPa _).mono ?_;rintro e w1 ⟨rfl,rfl⟩)|fail);go_ret2;exact ⟨rfl,rfl⟩
 |true=>
  rw [hp,Bool.true_and] at hk;rw [hp] at hPa;rw [hk] at hKi;clear hp hk;go_enter Tryz.func84,Tryz.ntmps84;go_wp2_with (first|(go_at_call 114;refine (hKi _).mono ?_;rintro e w1 ⟨rfl,rfl⟩)|(go_at_call 107;refine (hPa _).mono ?_;rintro e w1 ⟨rfl,rfl⟩)|fail);go_ret2;exact ⟨rfl,rfl⟩
end
def bkF (xs:List (Value×List UInt8)) (j:Nat):List UInt8:=(xs.getD j (.slice none 0 0,[])).2
def zK0 (bb:Nat) (v:Value) (xs:List (Value×List UInt8)):Ent:=
 ⟨fun g=>g=bb∨v.ownBlock=some g∨InL (xs.map Prod.fst) g,fun w=>BookAt w 0 bb v (xs.map Prod.fst) (bkF xs),fun h k=>
  ⟨k.blk.of_heap (h bb (.inl rfl)),Own.heap k.own (fun g hg=>h g (.inr (.inl hg))),fun j u hj=>Own.heap (k.each j u hj) (fun g hg=>h g (.inr (.inr ⟨j,u,hj,hg⟩))),k.apart⟩⟩
theorem Sep.book {w0 w:World} {L:List Ent} (h:Sep w0 w L):Sep w0 (w.alloc (.cells #[.slice none 0 0] 37)) (zK0 w.heap.size (.slice none 0 0) []::L):=by
 refine (h.alloc 37 [.slice none 0 0]).weak (fun hp=>⟨hp,Own.nil _ _ _ _,fun j u hj=>by simp at hj,fun i j u u' _ hi=>by simp at hi⟩) (fun g hg=> ?_);rcases hg with rfl|hg|⟨j,u,hj,_⟩
 ·rfl
 ·cases hg
 ·simp at hj
section laws
variable {w:World} {ops:Array Oper} {rest:List Oper} {o:Oper} {a:Act} {Q:Exit→Act→World→Prop}
end laws
end Go.Proofs.YtfcnkpofcekmgaaGreat
