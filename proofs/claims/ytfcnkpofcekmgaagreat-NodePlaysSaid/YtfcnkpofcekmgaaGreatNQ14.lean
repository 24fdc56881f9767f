/- Texts joined. -/
import Derived.Test.YtfcnkpofcekmgaaGreatNQ13
set_option maxRecDepth 100000
set_option maxHeartbeats 64000000
namespace Go.Proofs.YtfcnkpofcekmgaaGreat
open Go.RowKit
theorem f9 (b:List UInt8) (at_ w:Nat):zL b at_ w<256^w:=by
 unfold zL;refine Nat.lt_of_lt_of_le (mG _) (Nat.pow_le_pow_right (by omega) (by simp;omega))
theorem rP (vb:Value) (b:List UInt8) (bb at_:Nat) (X:Int) (hX:X=(at_:Int)) (ha:at_+2≤b.length) (w:World) (hv:RdB w vb b) (hc:w.cell? ⟨bb,0,none⟩=some vb):
 Calls Tryz.prog 144 #[.int .i64 X,.pointer (some ⟨bb,0,none⟩)] w fun e w'=>e= .returned (.int .i64 (zL b at_ 2:Nat))∧w'=w:=by
 subst hX;obtain ⟨A,c,rfl,hm⟩:=hv.form;have hr:=d8 (.slice A b.length c) b at_ 2 (by omega) (by omega) ha w hv;rw [show ((2:Nat):Int)=2 from rfl] at hr;have hl:=f9 b at_ 2;unfold zL at hl⊢;generalize qU ((b.drop at_).take 2)=N at*
 have e1:IntKind.i64.wrap (N:Int)=(N:Int):=by rw [IntKind.wrap_i64];omega
 go_enter Tryz.func144,Tryz.ntmps144;go_wp2_with (first|(go_at_call 145;(with_reducible refine hr.mono ?_);rintro e w1 ⟨rfl,rfl⟩)|fail);go_ret;exact ⟨rfl,rfl⟩
def DecK (w:World) (b:List UInt8) (e:Ending) (w':World):Prop:=
 (∃(kind:Int) (l:List CV) (v:Value),jV b kind (pcs l)∧e= .returned (.tuple #[.int .i64 kind,v,.int .i64 0])∧RngC l∧Sep w w' [csE v l,yK w])∨
  ((∀kind l,¬jV b kind l)∧e= .returned (.tuple #[.int .i64 0,.slice none 0 0,.int .i64 60])∧Below w.heap.size w w')
theorem a8 {b d:List UInt8} {kind:Int} {pre:List UInt8} {i a m:Nat} (h:zL b (6+pre.length+2*i) 2=a) (ha:a≤d.length):
 kB b d kind pre i a (m+1)=if (fI d kind i pre a).2.2=true then none else (kB b d kind pre (i+1) (fI d kind i pre a).2.1 m).map ((fI d kind i pre a).1:: ·):=by
 rw [kB,if_neg (by simp [h]),eN d kind i pre a ha]
 split<;>rename_i h1
 ·split at h1
  ·rename_i h2;rw [if_pos h2]
  ·cases h1
 ·split at h1
  ·cases h1
  ·rename_i h2
   injection h1 with h1;injection h1 with h1 h3;rw [if_neg h2,h1,h3]
theorem zAO {b d:List UInt8} {kind:Int} {pre:List UInt8} {i a m:Nat} (h:zL b (6+pre.length+2*i) 2≠a):kB b d kind pre i a (m+1)=none:=by
 rw [kB,if_pos h]
theorem oW (v:Value) (b:List UInt8) (w:World) (hv:RdB w v b):Calls Tryz.prog 83 #[v] w (DecK w b):=by
 obtain ⟨A,c,rfl,hm⟩:=hv.form;have hPa:=fun W=>gT (b.length:Int) (by omega) W;have hB0:Below w.heap.size w (w.alloc (.cells #[.slice A b.length c] 41)):=(Below.refl _ _).alloc (Nat.le_refl _) _
 cases hp:zT (b.length:Int) with
 |false=>
  have HN:Hid (∀kind l,¬jV b kind l):=Lib.hid fun kind l h=>by have:=h.1;rw [hp] at this;cases this
  rw [hp] at hPa;clear hp;go_enter Tryz.func83,Tryz.ntmps83;go_wp2_with (first|(go_at_call 136;refine (hPa _).mono ?_;rintro e w1 ⟨rfl,rfl⟩)|fail);refine bodyPost_ret (v:= .tuple #[.int .i64 0,.slice none 0 0,.int .i64 60]) ?_ rfl ?_
  ·simp [results,Tryz.results83,go_sem]
  ·exact .inr ⟨HN.out,rfl,hB0⟩
 |true=>
  obtain ⟨hP1,hP2⟩:=zZ hp
  have hb1:512≤b.length:=by omega
  have hb2:b.length≤65536:=by omega
  have HPG:=Lib.hid hp;have HNO:Hid (∀kind l,jV b kind l→cP b=some l∧vD b=kind∧b.getD 1 0=2):=Lib.hid fun kind l h=>fE h;rw [hp] at hPa;clear hp;obtain ⟨k0,hk0⟩:∃k0,b[0]? =some k0:=⟨_,List.getElem?_eq_getElem (by omega)⟩;obtain ⟨k1,hk1⟩:∃k1,b[1]? =some k1:=⟨_,List.getElem?_eq_getElem (by omega)⟩
  have hgd:vD b=(k0.toNat:Int):=by unfold vD;rw [List.getD,hk0];rfl
  have hg1:b.getD 1 0=k1:=by rw [List.getD,hk1];rfl
  have HG1:=Lib.hid hg1;have HKF:=Lib.hid hgd;obtain ⟨ad,rfl,c0⟩:=hv.at_ (j:=0) (by omega);obtain ⟨ad',had,c1⟩:=hv.at_ (j:=1) (by omega);obtain rfl:ad=ad':=Option.some.inj had
  have c0':w.cell? ad=some (.int .u8 (k0.toNat:Int)):=by
   rw [List.getElem?_eq_getElem (by omega)] at hk0;rw [←Option.some.inj hk0]
   have:=c0
   rw [show ad.add 0=ad from rfl] at this;exact this
  have c1':w.cell? (ad.add 1)=some (.int .u8 (k1.toNat:Int)):=by
   rw [List.getElem?_eq_getElem (by omega)] at hk1;rw [←Option.some.inj hk1];exact c1
  have hd0:=hB0.cell (World.block_lt_of_cell? _ _ c0');have hd1:=hB0.cell (World.block_lt_of_cell? _ _ c1');rw [c0'] at hd0;rw [c1'] at hd1;have hd1:World.cell? _ ⟨ad.block,ad.off+1,none⟩=_:=hd1;clear hk0 hk1 hgd hg1 had c0 c1 c0' c1';have hk0l:=k0.toNat_lt;have hk1l:=k1.toNat_lt
  have j0:(0:Int)<(b.length:Int):=by omega
  have j1:(1:Int)<(b.length:Int):=by omega
  have j2:0<b.length:=by omega
  have j3:1<b.length:=by omega
  have hkw:IntKind.i64.wrap (k0.toNat:Int)=(k0.toNat:Int):=by rw [IntKind.wrap_i64];omega
  have hKi:=fun W=>gZ (k0.toNat:Int) W;generalize hK0:k0.toNat=K0 at*
  by_cases h1:k1.toNat=2
  ·cases hik:zO (K0:Int) with
   |false=>
    have HN:Hid (∀kind l,¬jV b kind l):=Lib.hid fun kind l h=>by
     have h1:=(HNO.out kind l h).2.1;have h2:=h.2.1;rw [HKF.out] at h1;rw [←h1,hik] at h2
     cases h2
    rw [hik] at hKi;rw [h1] at hd1;clear hik h1;go_enter Tryz.func83,Tryz.ntmps83;go_wp2_with (first|(go_at_call 136;refine (hPa _).mono ?_;rintro e w1 ⟨rfl,rfl⟩)|(go_at_call 135;refine (hKi _).mono ?_;rintro e w1 ⟨rfl,rfl⟩)|fail);refine bodyPost_ret (v:= .tuple #[.int .i64 0,.slice none 0 0,.int .i64 60]) ?_ rfl ?_
    ·simp [results,Tryz.results83,go_sem]
    ·exact .inr ⟨HN.out,rfl,hB0⟩
   |true=>
    rw [hik] at hKi;rw [h1] at hd1;have HIK:=Lib.hid hik;clear hik h1;have hOb:=OBlk.new' w 41 [.slice (some ad) b.length c];have hN2:=fun k=>rP (.slice (some ad) b.length c) b w.heap.size 2 2 rfl (by omega) ((w.alloc (.cells #[.slice (some ad) b.length c] 41)).drewN k) (hv.below (zK hB0 k) (Nat.le_refl _)) ((hOb.drewN k).cell' (j:=0) rfl);have hN4:=fun k=>rP (.slice (some ad) b.length c) b w.heap.size 4 4 rfl (by omega) ((w.alloc (.cells #[.slice (some ad) b.length c] 41)).drewN k) (hv.below (zK hB0 k) (Nat.le_refl _)) ((hOb.drewN k).cell' (j:=0) rfl);have hl1:=f9 b 2 2;have hl2:=f9 b 4 2;obtain ⟨en,hen⟩:∃en:Nat,b.length=en+4:=⟨b.length-4,by omega⟩
    have hen2:b.length-4=en:=by omega
    have hpf:cP b=if b.length-4<6+zL b 4 2+2*zL b 2 2 then none else kB b (b.take (b.length-4)) (vD b) (tG b) 0 (6+zL b 4 2+2*zL b 2 2) (zL b 2 2):=rfl
    have hpre:tG b=(b.drop 6).take (zL b 4 2):=rfl;rw [HKF.out,hpre,hen2] at hpf;clear hpre
    have hpl:6+zL b 4 2≤b.length→((b.drop 6).take (zL b 4 2)).length=zL b 4 2:=fun h=>by rw [List.length_take,List.length_drop];omega
    have hrd6:=fun (h:6+zL b 4 2≤b.length)=>hv.run_lh 6 (6+zL b 4 2) (by omega) h
    have htd:(b.take (6+zL b 4 2)).drop 6=(b.drop 6).take (zL b 4 2):=by rw [List.drop_take];congr 1;omega
    rw [htd,show 6+zL b 4 2-6=zL b 4 2 by omega] at hrd6;clear htd;generalize (b.drop 6).take (zL b 4 2)=pre at*;generalize zL b 2 2=n at*;generalize zL b 4 2=m at*;obtain ⟨DA,dc,hdrun,hdrd⟩:=hv.run_h en (by omega)
    have hdl:(b.take en).length=en:=by rw [List.length_take];omega
    have HPF:=Lib.hid hpf
    have e1:IntKind.i64.wrap ((b.length:Int)-4)=(en:Int):=by rw [IntKind.wrap_i64];omega
    have e2:(b.length:Int)-4=(en:Int):=by omega
    have e3:IntKind.i64.wrap (en:Int)=(en:Int):=by rw [IntKind.wrap_i64];omega
    have e4:IntKind.i64.wrap (6+(m:Int))=6+(m:Int):=by rw [IntKind.wrap_i64];omega
    have e5:IntKind.i64.wrap (2*(n:Int))=2*(n:Int):=by rw [IntKind.wrap_i64];omega
    have e6:IntKind.i64.wrap (6+(m:Int)+2*(n:Int))=6+(m:Int)+2*(n:Int):=by rw [IntKind.wrap_i64];omega
    have HEN:=Lib.hid hen
    have hen3:en+4≤b.length:=by omega
    clear hpf hen hen2;go_enter Tryz.func83,Tryz.ntmps83;go_upto_region 4 with (first|(go_at_call 136;refine (hPa _).mono ?_;rintro e w1 ⟨rfl,rfl⟩)|(go_at_call 135;refine (hKi _).mono ?_;rintro e w1 ⟨rfl,rfl⟩)|fail)
    go_quiet (first
     |(go_at_call_of 144 (Value.int IntKind.i64 2);exact Calls.quiet_of_same (hN2 _))
     |(go_at_call_of 144 (Value.int IntKind.i64 4);exact Calls.quiet_of_same (hN4 _)))
    go_upto_region 6 with (fail)
    have hS0:Sep w (((w.alloc (.cells #[.slice (some ad) b.length c] 41)).drewN nq).alloc (.cells #[.slice DA en dc,.int .i64 (6+(m:Int)+2*(n:Int)),.bool false] 155)) [gQ (w.heap.size+1) (.slice DA en dc) (6+m+2*n) false,z7 w.heap.size 41 [.slice (some ad) b.length c],yK w]:=by
     have h:=((((Sep.start w).alloc 41 [.slice (some ad) b.length c]).drewN nq).alloc 155 [.slice DA en dc,.int .i64 (6+(m:Int)+2*(n:Int)),.bool false]);have e:((w.alloc (.cells [Value.slice (some ad) b.length c].toArray 41)).drewN nq).heap.size=w.heap.size+1:=World.size_alloc _ _;rw [e] at h;unfold gQ;rw [show ((6+m+2*n:Nat):Int)=6+(m:Int)+2*(n:Int) by omega];exact h
    clear hN2 hN4 hKi hPa hOb hd0 hd1 j0 j1 j2 j3;generalize hbb:w.heap.size+1=rb at*;clear hbb;generalize hww:(((w.alloc (.cells #[.slice (some ad) b.length c] 41)).drewN nq).alloc (.cells #[.slice DA en dc,.int .i64 (6+(m:Int)+2*(n:Int)),.bool false] 155))=w1 at*;clear hww;have y0:w1.cell? ⟨rb,0,none⟩=some (.slice DA en dc):=(show OBlk w1 rb 155 _ from hS0.head).cell' (j:=0) rfl;have y1:w1.cell? ⟨rb,1,none⟩=some (.int .i64 ((6+m+2*n:Nat):Int)):=(show OBlk w1 rb 155 _ from hS0.head).cell' (j:=1) rfl;generalize ha0:6+m+2*n=a0 at*
    have ha0i:6+(m:Int)+2*(n:Int)=(a0:Int):=by omega
    rw [ha0i] at e6
    try simp only [ha0i]
    by_cases h1:en<a0
    ·have HN:Hid (∀kind l,¬jV b kind l):=Lib.hid fun kind l h=>by
      have:=(HNO.out kind l h).1
      rw [HPF.out,if_pos h1] at this
      cases this
     have i1:(en:Int)<(a0:Int):=by omega
     have hB1:=hS0.belowOld (_v:=w) (by simp);go_quiet (fail);go_wp2_with fail;refine bodyPost_ret (v:= .tuple #[.int .i64 0,.slice none 0 0,.int .i64 60]) ?_ rfl ?_
     ·simp [results,Tryz.results83,go_sem]
     ·exact .inr ⟨HN.out,rfl,by have:=zK hB1;first|exact hB1|exact this _⟩
    ·have i1:¬(en:Int)<(a0:Int):=by omega
     have HPF2:Hid (cP b=kB b (b.take en) (K0:Int) pre 0 a0 n):=by show _=_;rw [HPF.out,if_neg h1]
     obtain ⟨PA,pc,hprun,hprd⟩:=hrd6 (by omega);have hpl2:=hpl (by omega)
     have hprun':∀w',(Instr.slice 41 (.slice (some ad) b.length c) (some (.int .i64 6)) (some (.int .i64 (6+(m:Int)))) none).run Tryz.prog w'= .ok (.slice PA m pc) w':=fun w'=>by have:=hprun w';rw [Int.natCast_add] at this;exact this
     have HPL:=Lib.hid hpl2
     have hm1:6+m≤en:=by omega
     have hmn:6+m+2*n≤en:=by omega
     have hn1:2*n≤en:=by omega
     clear HPF hrd6 hpl hpl2 hprun ha0 ha0i e6 e5;obtain ⟨i0,hi,hz0,hz1,hz2⟩:=info_parts vP;go_quiet (fail);have hS1:=hS0.drewN nq
     have hold:yK w∈ [gQ rb (.slice DA en dc) a0 false,z7 w.heap.size 41 [.slice (some ad) b.length c],yK w]:=by simp
     go_wp2_with fail;clear hS0 y0 y1;generalize w1.drewN nq=w2 at*
     go_loopw [10,64] (fun cv i wr=>∃(k:Nat) (l:List CV) (a:Nat),k≤n∧i= .int .i64 (k:Int)∧a≤en∧Hid (l.length=k)∧RngC l∧Hid (kB b (b.take en) (K0:Int) pre 0 a0 n=(kB b (b.take en) (K0:Int) pre k a (n-k)).map (pcs l++ ·))∧Sep w wr (gQ rb (.slice DA en dc) a false::zP 43 5 cv l.length (zF l)::(zG l++ [z7 w.heap.size 41 [.slice (some ad) b.length c],yK w]))) (fun _ i _=>n-(intOf i).toNat)
     case atStart=>exact ⟨0,[],a0,Nat.zero_le _,rfl,by omega,Lib.hid rfl,by simp [RngC],Lib.hid (by simp [pcs]),hS1.tail.nilC.cons hS1.head hS1.lt (fun A hA g hg=>by rcases List.mem_cons.1 hA with rfl|hA;(intro h;cases h);exact hS1.far hA g hg)⟩
     case round=>
      clear hS1;obtain ⟨k,l,a,hk,rfl,ha,HLK,hR,HP,hS⟩:=hrel;have hB:=hS.belowOld (_v:=w) (by simp);have hown:=(show Own wr 0 43 5 _ l.length (zF l) from hS.tail.head);obtain ⟨B,cc,rfl⟩:=Own.slice hown;have hO1:OBlk wr w.heap.size 41 [.slice (some ad) b.length c]:=hS.of_mem (E:=z7 _ _ _) (by simp);have hO2:OBlk wr rb 155 [.slice DA en dc,.int .i64 (a:Int),.bool false]:=hS.head;have y1:wr.cell? ⟨rb,1,none⟩=some (.int .i64 (a:Int)):=hO2.cell' (j:=1) rfl;rw [HLK.out] at hown;rw [HLK.out]
      by_cases hlt:k<n
      ·have ik:(k:Int)<(n:Int):=by omega
       have hNk:=fun q=>rP (.slice (some ad) b.length c) b w.heap.size (6+m+2*k) (6+(m:Int)+2*(k:Int)) (by omega) (by omega) (wr.drewN q) (hv.below (zK hB q) (Nat.le_refl _)) ((hO1.drewN q).cell' (j:=0) rfl);have HNL:=Lib.hid (f9 b (6+m+2*k) 2);generalize hNN:zL b (6+m+2*k) 2=N at*
       have e7:IntKind.i64.wrap (2*(k:Int))=2*(k:Int):=by rw [IntKind.wrap_i64];omega
       have e8:IntKind.i64.wrap (6+(m:Int)+2*(k:Int))=6+(m:Int)+2*(k:Int):=by rw [IntKind.wrap_i64];omega
       have hnk:n-k=(n-(k+1))+1:=by omega
       by_cases hq:N=a
       ·have hst:=a8 (b:=b) (d:=b.take en) (kind:=(K0:Int)) (pre:=pre) (i:=k) (a:=a) (m:=n-(k+1)) (by rw [HPL.out,hNN];exact hq) (by rw [hdl];exact ha);rw [←hnk] at hst;have HST:=Lib.hid hst;have hcel:=fun q=>zDE (hS.drewN q) (by simp) hdrd hprd (by rw [hdl];omega) (by rw [HPL.out];omega) (by rw [hdl];exact ha) (K0:Int) k;have hzl:=zE4 (d:=b.take en) (K0:Int) k pre (t:=a) (by rw [hdl];exact ha);rw [hdl] at hzl;generalize fI (b.take en) (K0:Int) k pre a=z at*;obtain ⟨zc,zt,zb⟩:=z;simp only at hcel hzl;subst hq;clear hst hNN hnk
        have hne:((N:Int) !=(N:Int))=false:=by simp
        go_wp2_with fail
        go_quiet (first
         |(go_at_call 144;exact Calls.quiet_of_same (hNk _)))
        have hcel:=hcel nq;have y9:wr.cell? ⟨w.heap.size,0,none⟩=some (.slice (some ad) b.length c):=hO1.cell' (j:=0) rfl;clear hNk e7 e8 y1 hown
        go_upto_region 15 with (first
         |(go_at_call 146;(with_reducible refine hcel.mono ?_);rintro e w3 ⟨x,rfl,hx,⟨hr1,hr2,hr3⟩,hS3⟩;obtain ⟨kv,vv,key,ck,val,pg,ct⟩:=x;simp only at hx hr1 hr2 hr3 hS3;have hkO:=(show OwB w3 0 kv key from hS3.head);have hvO:=(show OwB w3 0 vv val from hS3.tail.head);obtain ⟨xK,xk,rfl⟩:=Own.slice hkO;obtain ⟨xV,xv,rfl⟩:=Own.slice hvO;have hone:=vC (x:=⟨.slice xK key.length xk,.slice xV val.length xv,⟨key,ck,val,pg,ct⟩⟩) hkO hvO;have hS4:=hS3.alloc 43 [.slice xK key.length xk,.int .i64 ck,.slice xV val.length xv,.int .i64 pg,.int .i64 ct];have hown2:=(show Own _ 0 43 5 _ l.length (zF l) from hS4.tail.tail.tail.tail.head);rw [HLK.out] at hown2;have hsrc:=Rd.five w3 (.slice xK key.length xk) (.int .i64 ck) (.slice xV val.length xv) (.int .i64 pg) (.int .i64 ct) 43;unfold zJ)
         |(at_builtin;refine gA rfl (.tmp 79) (.tmp 88) _ _ rfl 0 43 i0 _ 5 72 Tryz.underlying32 hi hz0 hz1 hz2 rfl (.slice B k cc) k (zF l) rfl hown2 (.slice (some ⟨w3.heap.size,0,none⟩) 1 1) 1 _ rfl (Rd.src _ Tryz.underlying32 (by omega) hsrc hone) (by omega) (by omega) (Nat.zero_le _) ?_;intro v' w' ho' hg' hk';obtain ⟨B',c',rfl⟩:=Own.slice ho')
         |fail)
        rw [HLK.out] at hS4;have hS5:=(hS4.sw [_,_,_,_]).appC ho' hg' (hk'.imp id fun h=>⟨_,h,Nat.le_refl _⟩);have hrb:=(show OBlk w' rb 155 [.slice DA en dc,.int .i64 (zt:Int),.bool zb] from hS5.tail.tail.tail.tail.head);have y2:w'.cell? ⟨rb,2,none⟩=some (.bool zb):=hrb.cell' (j:=2) rfl;have hB5:=hS5.belowOld (_v:=w) (by simp);clear hS4 hS3 hkO hvO hown2 hsrc hone hcel y9 hO1 hO2 hrb
        cases zb with
        |true=>
         have HN:Hid (∀kind l,¬jV b kind l):=Lib.hid fun kind l' h=>by
          have:=(HNO.out kind l' h).1
          rw [HPF2.out,HP.out,HST.out] at this
          cases this
         clear hS5;go_wp2_with fail;refine bodyPost_ret (v:= .tuple #[.int .i64 0,.slice none 0 0,.int .i64 60]) ?_ rfl ?_
         ·simp [results,Tryz.results83,go_sem]
         ·exact .inr ⟨HN.out,rfl,hB5⟩
        |false=>
         have hP2:kB b (b.take en) (K0:Int) pre 0 a0 n=(kB b (b.take en) (K0:Int) pre (k+1) zt (n-(k+1))).map (pcs (l++ [⟨.slice xK key.length xk,.slice xV val.length xv,⟨key,ck,val,pg,ct⟩⟩])++ ·):=by
          rw [HP.out,HST.out]
          show Option.map _ (if false=true then _ else Option.map _ _)=_
          rw [if_neg (by simp),Option.map_map]
          congr 1
          funext z
          simp [pcs,←hx]
         have HP2:=Lib.hid hP2;have hS6:=hS5.sw1.tail;rw [←HLK.out] at hS6;have hS7:=Sep.csSnocFar (y:=⟨.slice xK key.length xk,.slice xV val.length xv,⟨key,ck,val,pg,ct⟩⟩) [gQ rb (.slice DA en dc) zt false] hS6;have hS8:=hS7.unpack;have hS9:=Sep.sw (E:=gQ rb (.slice DA en dc) zt false) (zP 43 5 _ _ _::zG _) hS8;rw [HLK.out] at hS9;have hS10:Sep w w' (gQ rb (.slice DA en dc) zt false::zP 43 5 (.slice B' (k+1) c') (l++ [(⟨.slice xK key.length xk,.slice xV val.length xv,⟨key,ck,val,pg,ct⟩⟩:CV)]).length (zF (l++ [(⟨.slice xK key.length xk,.slice xV val.length xv,⟨key,ck,val,pg,ct⟩⟩:CV)]))::(zG (l++ [(⟨.slice xK key.length xk,.slice xV val.length xv,⟨key,ck,val,pg,ct⟩⟩:CV)])++ [z7 w.heap.size 41 [.slice (some ad) b.length c],yK w])):=hS9;have HS9:=Lib.hid hS10;have HX:=Lib.hid hx;clear hP2 hS5 hS6 hS7 hS8 hS9 hS10 hS hx;go_wp2_with fail;go_roundw
         case rel=>exact ⟨k+1,l++ [⟨.slice xK key.length xk,.slice xV val.length xv,⟨key,ck,val,pg,ct⟩⟩],zt,by omega,by go_num,hzl,Lib.hid (by rw [List.length_append,HLK.out];rfl),fun y hy=>by rcases List.mem_append.1 hy with hy|hy;exact hR y hy;obtain rfl:=List.mem_singleton.1 hy;exact ⟨hr1,hr2,hr3⟩,HP2,HS9.out⟩
         case measure=>simp [intOf];omega
       ·have HN:Hid (∀kind l,¬jV b kind l):=Lib.hid fun kind l' h=>by
         have:=(HNO.out kind l' h).1
         rw [HPF2.out,HP.out,hnk,zAO (by rw [HPL.out,hNN];exact hq)] at this
         cases this
        have hne:((N:Int) !=(a:Int))=true:=by simp only [bne,beq_eq_false_iff_ne.2 (show (N:Int)≠(a:Int) by omega)];rfl
        clear hq hNN hnk HP;go_wp2_with fail
        go_quiet (first
         |(go_at_call 144;exact Calls.quiet_of_same (hNk _)))
        go_wp2_with fail;refine bodyPost_ret (v:= .tuple #[.int .i64 0,.slice none 0 0,.int .i64 60]) ?_ rfl ?_
        ·simp [results,Tryz.results83,go_sem]
        ·exact .inr ⟨HN.out,rfl,zK hB _⟩
      ·obtain rfl:k=n:=by omega
       have hpl:cP b=some (pcs l):=by
        rw [HPF2.out,HP.out,Nat.sub_self];simp [kB]
       have HPL2:=Lib.hid hpl;have hrd:=hS.openRd (u:= .slice B l.length cc) (by simp) (fun E hE=>by simp [hE]) hR;have hE:=pU (K0:Int) (.slice B l.length cc) l (b.length:Int) (by unfold yE;omega) wr hrd (by rw [HLK.out];omega);rw [HLK.out] at hE;have y9:wr.cell? ⟨w.heap.size,0,none⟩=some (.slice (some ad) b.length c):=hO1.cell' (j:=0) rfl;have hEQ:=fun v' (a':List UInt8) W (hW:Below w.heap.size w W) (h':RdB W v' a')=>nY v' (.slice (some ad) b.length c) a' b W h' (hv.below hW (Nat.le_refl _));have HISP:Hid (zT (b.length:Int)=true):=HPG;have HS:=Lib.hid hS;clear hpl hrd hS hown;go_wp2_with fail;refine hE.mono ?_;unfold wV;simp only [Int.toNat_natCast];rintro e w2 ⟨hw2,⟨hf,rfl⟩|⟨ht,⟨hne,rfl⟩|⟨hz,g,rfl,hg,hbk⟩⟩⟩
       ·exact absurd hf (by rw [HIK.out,HISP.out];simp)
       ·have HN:Hid (∀kind l,¬jV b kind l):=Lib.hid fun kind l' h=>by
         have h1:=HNO.out kind l' h;rw [HKF.out,HPL2.out] at h1;obtain ⟨h1,h2,_⟩:=h1;injection h1 with h1;have h3:=h.2.2.1;rw [←h1,←h2] at h3;exact hne h3
        have hB2:=hB.trans (hw2.mono hB.size)
        have hnb:(kQ (K0:Int) (pcs l) b.length !=0)=true:=by simp only [bne,beq_eq_false_iff_ne.2 hne];rfl
        generalize kQ (K0:Int) (pcs l) b.length=ee at*;clear hne hE hEQ ht;go_wp2_with fail;refine bodyPost_ret (v:= .tuple #[.int .i64 0,.slice none 0 0,.int .i64 60]) ?_ rfl ?_
        ·simp [results,Tryz.results83,go_sem]
        ·exact .inr ⟨HN.out,rfl,hB2⟩
       ·have hB2:=hB.trans (hw2.mono hB.size);have hll:(x9 (K0:Int) (pcs l) b.length).length=b.length:=q9 (qH.1 hz).2;have hEQ2:=hEQ _ _ w2 hB2 (hbk.rdB hll (by omega));have y9':=(hw2.cell (World.block_lt_of_cell? _ _ y9)).trans y9;have HZ:=Lib.hid hz;have HS2:=Lib.hid (HS.out.below hw2);rcases Bool.eq_false_or_eq_true (x9 (K0:Int) (pcs l) b.length==b) with hq|hq
        ·rw [hq] at hEQ2;have HY:Hid (jV b (K0:Int) (pcs l)):=Lib.hid ⟨HISP.out,HIK.out,HZ.out,eq_of_beq hq⟩;clear hq hE hEQ ht hz hll hbk y9;go_wp2_with fail;refine hEQ2.mono ?_;rintro e w3 ⟨rfl,rfl⟩;go_wp2_with fail;refine bodyPost_ret (v:= .tuple #[.int .i64 (K0:Int),.slice B k cc,.int .i64 0]) ?_ rfl ?_
         ·simp [results,Tryz.results83,go_sem]
         ·have h9:=HS2.out.tail;have h10:=Sep.pack (D:=zP 43 5 (.slice B l.length cc) l.length (zF l)::zG l) h9;refine .inl ⟨_,l,.slice B l.length cc,HY.out,by rw [HLK.out],hR,?_⟩;exact (Sep.sw1 h10).tail
        ·rw [hq] at hEQ2
         have HN:Hid (∀kind l,¬jV b kind l):=Lib.hid fun kind l' h=>by
          have h1:=HNO.out kind l' h;rw [HKF.out,HPL2.out] at h1;obtain ⟨h1,h2,_⟩:=h1;injection h1 with h1;have h3:=h.2.2.2;rw [←h1,←h2] at h3;rw [h3] at hq;simp at hq
         clear hq hE hEQ ht hz hll hbk y9;go_wp2_with fail;refine hEQ2.mono ?_;rintro e w3 ⟨rfl,rfl⟩;go_wp2_with fail;refine bodyPost_ret (v:= .tuple #[.int .i64 0,.slice none 0 0,.int .i64 60]) ?_ rfl ?_
         ·simp [results,Tryz.results83,go_sem]
         ·exact .inr ⟨HN.out,rfl,hB2⟩
  ·have HN:Hid (∀kind l,¬jV b kind l):=Lib.hid fun kind l h=>by
    have h2:=(HNO.out kind l h).2.2;rw [HG1.out] at h2;rw [h2] at h1;exact h1 rfl
   have hq:(((k1.toNat:Nat):Int) !=2)=true:=by simp only [bne,beq_eq_false_iff_ne.2 (show ((k1.toNat:Nat):Int)≠2 by omega)];rfl
   clear h1;go_enter Tryz.func83,Tryz.ntmps83;go_wp2_with (first|(go_at_call 136;refine (hPa _).mono ?_;rintro e w1 ⟨rfl,rfl⟩)|(go_at_call 135;refine (hKi _).mono ?_;rintro e w1 ⟨rfl,rfl⟩)|fail);refine bodyPost_ret (v:= .tuple #[.int .i64 0,.slice none 0 0,.int .i64 60]) ?_ rfl ?_
   ·simp [results,Tryz.results83,go_sem]
   ·exact .inr ⟨HN.out,rfl,hB0⟩
def pkE (p:Nat) (kind:Int) (P:Nat) (u pv:Value) (used waste:Nat) (l:List CV) (pre:List UInt8):Ent:=lM [pkB p kind P u pv used waste,csE u l,zB pv pre]
def PgK (w0 w:World) (L:List Ent) (p P:Nat) (kind:Int) (s:KP):Prop:=
 ∃u pv l,pcs l=s.l∧RngC l∧Sep w0 w (pkE p kind P u pv (vF kind s) s.waste l s.pre::L)
section
variable {w0 w w':World} {L:List Ent} {p P used waste:Nat} {kind:Int} {u pv:Value} {l:List CV} {pre:List UInt8} {s:KP}
theorem Sep.pkOpen (h:Sep w0 w (pkE p kind P u pv used waste l pre::L)):Sep w0 w (pkB p kind P u pv used waste::zP 43 5 u l.length (zF l)::zB pv pre::(zG l++L)):=by
 have h1:Sep w0 w (pkB p kind P u pv used waste::csE u l::zB pv pre::L):=h.unpack;have h2:Sep w0 w (zP 43 5 u l.length (zF l)::(zG l++(pkB p kind P u pv used waste::zB pv pre::L))):=Sep.unpack (D:=zP 43 5 u l.length (zF l)::zG l) h1.sw1;refine h2.perm ?_;exact (List.Perm.cons _ (List.perm_append_comm_assoc (zG l) [pkB p kind P u pv used waste,zB pv pre] L)).trans (List.Perm.swap _ _ _)
theorem Sep.pkShut (h:Sep w0 w (pkB p kind P u pv used waste::csE u l::zB pv pre::L)):Sep w0 w (pkE p kind P u pv used waste l pre::L):=Sep.pack (D:= [_,_,_]) h
theorem Sep.pkClose (h:Sep w0 w (pkB p kind P u pv used waste::zP 43 5 u l.length (zF l)::zB pv pre::(zG l++L))):Sep w0 w (pkE p kind P u pv used waste l pre::L):=by
 refine Sep.pkShut ((Sep.pack (D:=zP 43 5 u l.length (zF l)::zG l) (L:=pkB p kind P u pv used waste::zB pv pre::L) (h.perm ?_)).sw1);exact (List.Perm.swap _ _ _).trans (List.Perm.cons _ (List.perm_append_comm_assoc (zG l) [pkB p kind P u pv used waste,zB pv pre] L).symm)
theorem Sep.kAt (h:Sep w0 w (pkE p kind P u pv used waste l pre::L)) (hr:RngC l):KAt w p kind P u pv used waste l:=
 ⟨h.pkOpen.head,h.pkOpen.openRd (by simp) (fun E hE=>by simp [hE]) hr⟩
theorem PgK.below (h:PgK w0 w L p P kind s) (hb:Below w.heap.size w w'):PgK w0 w' L p P kind s:=by
 obtain ⟨u,pv,l,h1,h2,h3⟩:=h;exact ⟨u,pv,l,h1,h2,h3.below hb⟩
theorem zF0 (h:KAt w p kind P u pv used waste l):Calls Tryz.prog 221 #[.pointer (some ⟨p,0,none⟩)] w fun e w'=>e= .returned (.int .i64 (l.length:Int))∧w=w':=by
 obtain ⟨A,c,rfl,hm,hc⟩:=h.rd.slice;obtain ⟨b0,b1,b2,b3,b4,b5⟩:=yZ h.blk;go_enter Tryz.func221,Tryz.ntmps221;go_wp2_with fail;go_ret;exact ⟨rfl,rfl⟩
theorem zB7 (h:KAt w p kind P u pv used waste l):Calls Tryz.prog 220 #[.pointer (some ⟨p,0,none⟩)] w fun e w'=>e= .returned (.int .i64 kind)∧w=w':=by
 obtain ⟨b0,b1,b2,b3,b4,b5⟩:=yZ h.blk;go_enter Tryz.func220,Tryz.ntmps220;go_wp2_with fail;go_ret;exact ⟨rfl,rfl⟩
theorem zCC (h:KAt w p kind P u pv used waste l):Calls Tryz.prog 224 #[.pointer (some ⟨p,0,none⟩)] w fun e w'=>e= .returned (.int .i64 (used:Int))∧w=w':=by
 obtain ⟨b0,b1,b2,b3,b4,b5⟩:=yZ h.blk;go_enter Tryz.func224,Tryz.ntmps224;go_wp2_with fail;go_ret;exact ⟨rfl,rfl⟩
theorem zAB (h:KAt w p kind P u pv used waste l) (hl:l.length≤65536) (hP:P≤65536) (hk:zO kind=true) (hp:zT (P:Int)=true) (he:kQ kind (pcs l) P=0):
 Calls Tryz.prog 216 #[.pointer (some ⟨p,0,none⟩)] w fun e w'=>∃g,e= .returned (.slice (some ⟨g,0,none⟩) P P)∧w.heap.size≤g∧OBlk w' g 5 (bvs (x9 kind (pcs l) P))∧Below w.heap.size w w':=by
 obtain ⟨A,c,rfl,hm,hc⟩:=h.rd.slice;obtain ⟨b0,b1,b2,b3,b4,b5⟩:=yZ h.blk
 have hE:∀m,Calls Tryz.prog 82 #[.int .i64 kind,.slice A l.length c,.int .i64 (P:Int)] (w.drewN m) fun e w'=>∃g,e= .returned (.tuple #[.slice (some ⟨g,0,none⟩) P P,.int .i64 0])∧w.heap.size≤g∧OBlk w' g 5 (bvs (x9 kind (pcs l) P))∧Below w.heap.size w w':=fun m=>by
  have hb:=zK (Below.refl w.heap.size w) m;refine (pU kind _ l (P:Int) (by unfold yE;omega) (w.drewN m) (h.rd.below hb) (by omega)).mono ?_;unfold wV;simp only [Int.toNat_natCast];rintro e w' ⟨hw,⟨hf,-⟩|⟨-,⟨hne,-⟩|⟨-,g,rfl,hg,hbk⟩⟩⟩
  ·rw [hk,hp] at hf;cases hf
  ·exact absurd he hne
  ·exact ⟨g,rfl,hg,hbk,hb.trans (hw.mono hb.size)⟩
 have HE:=Lib.hid hE;have hblk:=h.blk;clear hE he hk hp h;go_enter Tryz.func216,Tryz.ntmps216;go_upto_region 1 with (fail)
 go_region_held3 (fun w'=>w'.cell? ⟨p,0,none⟩=some (.int .i64 kind)∧w'.cell? ⟨p,1,none⟩=some (.int .i64 (P:Int))∧w'.cell? ⟨p,2,none⟩=some (.slice A l.length c))
  (first|exact ⟨b0,b1,b2⟩|(have hx:=yZ (hblk.below hw2 hblk.lt);exact ⟨hx.1,hx.2.1,hx.2.2.1⟩))
  (first
   |(go_at_call 82;refine (HE.out 1).mono ?_;rintro e w2 ⟨g,rfl,hg,hbk,hw2⟩)
   |fail)
 go_wp2_with fail;go_ret;exact ⟨g,rfl,hg,hbk,hw2⟩
theorem zG9 (kind:Int) (P:Nat) (hk:zO kind=true) (hp:zT (P:Int)=true) (h:Sep w0 w L):Calls Tryz.prog 78 #[.int .i64 kind,.int .i64 (P:Int)] w fun e w'=>
 ∃p,e= .returned (.tuple #[.pointer (some ⟨p,0,none⟩),.int .i64 0])∧PgK w0 w' L p P kind ⟨[],[],0⟩:=by
 have hr:=zZ hp;have hKi:=fun W=>gZ kind W;have hPa:=fun W=>gT (P:Int) (by omega) W;rw [hk] at hKi;rw [hp] at hPa;clear hk hp;have hS:=h.alloc 150 [.int .i64 kind,.int .i64 (P:Int),.slice none 0 0,.slice none 0 0,.int .i64 10,.int .i64 0];have hS2:=(hS.nil.nilC).sw2
 have hu:vF kind ⟨[],[],0⟩=10:=by unfold vF z5;rfl
 have HU:=Lib.hid hu;clear hu h hS;go_enter Tryz.func78,Tryz.ntmps78;go_wp2_with (first|(go_at_call 135;refine (hKi _).mono ?_;rintro e w1 ⟨rfl,rfl⟩)|(go_at_call 136;refine (hPa _).mono ?_;rintro e w1 ⟨rfl,rfl⟩)|fail);go_ret2;refine ⟨_,rfl,.slice none 0 0,.slice none 0 0,[],rfl,by simp [RngC],?_⟩;rw [HU.out];exact Sep.pkClose (l:= []) hS2
theorem zDW (kind P:Int) (hP:yE P) (hk:(zO kind&&zT P)=false) (w:World):Calls Tryz.prog 78 #[.int .i64 kind,.int .i64 P] w fun e w'=>
 e= .returned (.tuple #[.pointer none,.int .i64 1])∧w=w':=by
 have hKi:=fun W=>gZ kind W;have hPa:=fun W=>gT P hP W
 cases hk1:zO kind with
 |false=>
  rw [hk1] at hKi;clear hk hk1;go_enter Tryz.func78,Tryz.ntmps78;go_wp2_with (first|(go_at_call 135;refine (hKi _).mono ?_;rintro e w1 ⟨rfl,rfl⟩)|fail);go_ret2;exact ⟨rfl,rfl⟩
 |true=>
  rw [hk1,Bool.true_and] at hk;rw [hk1] at hKi;rw [hk] at hPa;clear hk hk1;go_enter Tryz.func78,Tryz.ntmps78;go_wp2_with (first|(go_at_call 135;refine (hKi _).mono ?_;rintro e w1 ⟨rfl,rfl⟩)|(go_at_call 136;refine (hPa _).mono ?_;rintro e w1 ⟨rfl,rfl⟩)|fail);go_ret2;exact ⟨rfl,rfl⟩
end
theorem KInv.ok {kind:Int} {P:Nat} {s:KP} (h:KInv kind P s):∀c∈s.l,OkC P c:=fun c hc=>xY (h.may c hc)
theorem KInv.big {kind:Int} {P:Nat} {s:KP} (h:KInv kind P s) (hP:P≤65536):xT s.l≤2148024320:=by
 have h1:=gD hP h.ok;have h2:=h.len hP;omega
theorem qM {P:Nat} {c:PC} (h:OkC P c) (hP:P≤65536):c.key.length≤8192∧c.val.length≤12288:=by
 have:=h.k0
 refine ⟨by omega,?_⟩
 by_cases hk:c.kind=1
 ·have:=(h.v0 hk).1;omega
 ·rw [(h.v1 hk).1];simp
theorem zDI {w0 w:World} {L:List Ent} (h:Sep w0 w L) (v:Value) (b:List UInt8) (hv:RdB w v b):
 Calls Tryz.prog 80 #[v] w fun e w'=>
  (∃p kind l,jV b kind l∧e= .returned (.tuple #[.pointer (some ⟨p,0,none⟩),.int .i64 0])∧PgK w0 w' L p b.length kind (jI kind l))∨
  ((∀kind l,¬jV b kind l)∧e= .returned (.tuple #[.pointer none,.int .i64 60])∧Sep w0 w' L):=by
 have hD:=oW v b w hv;obtain ⟨A,c,rfl,hm⟩:=hv.form;go_enter Tryz.func80,Tryz.ntmps80;go_wp2_with fail;refine hD.mono ?_;rintro e w1 (⟨kind,l,v,hpk,rfl,hr,hS⟩|⟨hno,rfl,hb⟩)
 ·have hinv:=rU hpk;have hb2:=(zZ hpk.1).2;have hbig:=hinv.big (by omega);have hS1:=Sep.lift1 hS (List.mem_cons_self ..) h;have hO:Own w1 0 43 5 v l.length (zF l):=hS.head.1 _ (List.mem_cons_self ..);obtain ⟨B,d,rfl⟩:=Own.slice hO;have hS2:Sep w0 _ (pkB w1.heap.size kind b.length (.slice B l.length d) (.slice none 0 0) 0 0::csE (.slice B l.length d) l::L):=hS1.alloc 150 [.int .i64 kind,.int .i64 (b.length:Int),.slice B l.length d,.slice none 0 0,.int .i64 0,.int .i64 0];have hT:=nI hS2 (fun W hW=>qA (hW _ (List.mem_cons_self ..)) hr) (by have:(jI kind (pcs l)).l=pcs l:=rfl;rw [this] at hbig;omega);have HPK:=Lib.hid hpk;clear hD hS hS1 hS2 hO hinv hbig
  go_wp2_with (first
   |(go_at_call 137;(with_reducible refine hT.mono ?_);rintro e w2 ⟨⟨x,rfl⟩,pv',hS3⟩)
   |fail)
  go_ret2;refine .inl ⟨_,kind,pcs l,HPK.out,rfl,.slice B l.length d,pv',l,rfl,hr,?_⟩;rw [bS];exact Sep.pkShut (hS3.sn [_])
 ·have HN:=Lib.hid hno;have hS:=h.below hb;clear hD hno;go_wp2_with fail;go_ret2;exact .inr ⟨HN.out,rfl,hS⟩
def tL (w0:World) (L:List Ent) (p P:Nat) (kind:Int) (s:KP) (z:Int) (c:PC) (e:Ending) (w':World):Prop:=
 ∃y:CV,e= .returned (.tuple #[zJ y,.int .i64 z])∧y.c=c∧(yE c.kind∧yE c.page∧yE c.count)∧PgK w0 w' (zB y.kv y.c.key::zB y.vv y.c.val::L) p P kind s
theorem zCZ {w0 w:World} {L:List Ent} {p P:Nat} {kind:Int} {s:KP} (hS:PgK w0 w L p P kind s) (hk:KInv kind P s) (hP:P≤65536) (i:Int) (hi64:yE i):
 Calls Tryz.prog 217 #[.pointer (some ⟨p,0,none⟩),.int .i64 i] w (tL w0 L p P kind s (jA s.l i) (xG s.l i)):=by
 obtain ⟨u,pv,l,hpl,hr,hS⟩:=hS;obtain ⟨sl,pre,waste⟩:=s;simp only at hpl;subst hpl;have hlen:=hk.len hP;simp only [zA] at hlen;have hS1:=hS.alloc 43 [.slice none 0 0,.int .i64 0,.slice none 0 0,.int .i64 0,.int .i64 0];have hKt:=hS1.tail.kAt hr;obtain ⟨U,uc,rfl,hm,hc⟩:=hKt.rd.slice;obtain ⟨b0,b1,b2,b3,b4,b5⟩:=yZ hKt.blk;have hbr:=(show OBlk _ w.heap.size 43 [.slice none 0 0,.int .i64 0,.slice none 0 0,.int .i64 0,.int .i64 0] from hS1.head);obtain ⟨d0,d1,d2,d3,d4⟩:=zC hbr;obtain ⟨f0,f1,f2,f3,f4⟩:=xJ hbr;simp only at hS1⊢
 by_cases hin:i<0∨(l.length:Int)≤i
 ·have hz:jA (pcs l) i=64:=by unfold jA;rw [if_pos (by rw [zA];exact hin)]
  have hz2:xG (pcs l) i=⟨[],0,[],0,0⟩:=by unfold xG;rw [if_pos (by rw [zA];exact hin)]
  rw [hz,hz2]
  have hfin:∀w',Sep w0 w' (z7 w.heap.size 43 [.slice none 0 0,.int .i64 0,.slice none 0 0,.int .i64 0,.int .i64 0]::pkE p kind P (.slice U l.length uc) pv (vF kind ⟨pcs l,pre,waste⟩) waste l pre::L)→
   tL w0 L p P kind ⟨pcs l,pre,waste⟩ 64 ⟨[],0,[],0,0⟩ (.returned (.tuple #[.agg #[.slice none 0 0,.int .i64 0,.slice none 0 0,.int .i64 0,.int .i64 0],.int .i64 64])) w':=fun w' h=>
   ⟨⟨.slice none 0 0,.slice none 0 0,⟨[],0,[],0,0⟩⟩,rfl,rfl,(by simp [yE]),.slice U l.length uc,pv,l,rfl,hr,(h.tail.nil.nil).sw [_,_]⟩
  have HF:=Lib.hid hfin;have HS2:=Lib.hid hS1;clear hfin hS1 hS hz hz2 hKt hbr;rcases hin with h|h
  ·go_enter Tryz.func217,Tryz.ntmps217;go_wp2_with fail;have hS2:=HS2.out;obtain ⟨e0,e1,e2,e3,e4⟩:=zC (show OBlk _ w.heap.size 43 _ from hS2.head);refine bodyPost_ret (v:= .tuple #[.agg #[.slice none 0 0,.int .i64 0,.slice none 0 0,.int .i64 0,.int .i64 0],.int .i64 64]) ?_ rfl (HF.out _ hS2);simp [results,Tryz.results217,go_sem,e0,e1,e2,e3,e4]
  ·have h':¬i<0:=by omega
   go_enter Tryz.func217,Tryz.ntmps217;go_wp2_with fail;have hS2:=HS2.out;obtain ⟨e0,e1,e2,e3,e4⟩:=zC (show OBlk _ w.heap.size 43 _ from hS2.head);refine bodyPost_ret (v:= .tuple #[.agg #[.slice none 0 0,.int .i64 0,.slice none 0 0,.int .i64 0,.int .i64 0],.int .i64 64]) ?_ rfl (HF.out _ hS2);simp [results,Tryz.results217,go_sem,e0,e1,e2,e3,e4]
 ·obtain ⟨k,rfl⟩:∃k:Nat,i=(k:Int):=⟨i.toNat,by omega⟩
  have hkl:k<l.length:=by omega
  have hkp:k<(pcs l).length:=by rw [zA];exact hkl
  have hz:jA (pcs l) (k:Int)=0:=by unfold jA;rw [if_neg (by rw [zA];exact hin)]
  have hz2:xG (pcs l) (k:Int)=l[k].c:=by unfold xG;rw [if_neg (by rw [zA];exact hin),←zV hkl];simp [List.getD,hkp]
  rw [hz,hz2];have hok:=qM (hk.ok (l[k].c) (by show l[k].c∈pcs l;rw [←zV hkl];exact List.getElem_mem hkp)) hP;have hzx:=hKt.rd.ok _ (List.getElem_mem hkl);obtain ⟨ad,rfl,q0,q1,q2,q3,q4⟩:=hKt.rd.at_ hkl;have hrz:yE l[k].c.kind∧yE l[k].c.page∧yE l[k].c.count:=hr _ (List.getElem_mem hkl);generalize l[k]=z at*;have hO:=oP hS1 z hzx (by omega) (by omega)
  have i1:¬(k:Int)<0:=by omega
  have i2:¬(l.length:Int)≤(k:Int):=by omega
  have i2':(k:Int)<(l.length:Int):=by omega
  clear hz hz2 hin hS hk hKt hkp hS1 hbr;obtain ⟨KB,kb,VB,vb,zkey,zck,zval,zpg,zct,rfl,-,-⟩:=CV.form hzx;unfold zJ at hO;simp only at hO hrz⊢;go_enter Tryz.func217,Tryz.ntmps217
  go_wp2_with (first
   |(go_at_call 225;(with_reducible refine hO.mono ?_);rintro e w6 ⟨⟨ykv,yvv,yc⟩,rfl,hyc,hS6⟩;simp only at hyc;subst hyc;obtain ⟨K2,kc,rfl⟩:=Own.slice (show OwB w6 0 ykv zkey from hS6.head);obtain ⟨V2,vc,rfl⟩:=Own.slice (show OwB w6 0 yvv zval from hS6.tail.head);have hB6:OBlk w6 w.heap.size 43 [.slice none 0 0,.int .i64 0,.slice none 0 0,.int .i64 0,.int .i64 0]:=hS6.tail.tail.head;obtain ⟨g0,g1,g2,g3,g4⟩:=zC hB6;obtain ⟨h0,h1,h2,h3,h4⟩:=xJ hB6)
   |fail)
  have hS7:=(Sep.sw2 hS6).set5 (.slice K2 zkey.length kc) (.int .i64 zck) (.slice V2 zval.length vc) (.int .i64 zpg) (.int .i64 zct);obtain ⟨e0,e1,e2,e3,e4⟩:=zC (show OBlk _ w.heap.size 43 _ from hS7.head);refine bodyPost_ret (v:= .tuple #[.agg #[.slice K2 zkey.length kc,.int .i64 zck,.slice V2 zval.length vc,.int .i64 zpg,.int .i64 zct],.int .i64 0]) ?_ rfl ⟨⟨.slice K2 zkey.length kc,.slice V2 zval.length vc,⟨zkey,zck,zval,zpg,zct⟩⟩,rfl,rfl,hrz,.slice (some ad) l.length uc,pv,l,rfl,hr,hS7.tail.sw [_,_]⟩;simp [results,Tryz.results217,go_sem,e0,e1,e2,e3,e4]
theorem m0 {w:World} {p:Nat} {kind:Int} {P:Nat} {u pv:Value} {used waste:Nat} {l:List CV} (h:KAt w p kind P u pv used waste l) (hkd:kind=2∨kind=3) (hP:P≤65536) (x:CV) (hx:x.ok w) (i j:Nat) (bf bh:Int) (hbf:bf=(i:Int)-1) (hbh:bh=(j:Int)) (hi:i≤l.length) (hj:j≤l.length):
 Calls Tryz.prog 227 #[.pointer (some ⟨p,0,none⟩),zJ x,.int .i64 bf,.int .i64 bh] w fun e w'=>
  e= .returned (.int .i64 (if zQ kind P x.c=false then 62 else if 0≤jB (pcs l) i x.c∨0≤yY (pcs l) j x.c then 63 else 0))∧Below w.heap.size w w':=by
 subst hbh;obtain ⟨A,ca,B,cb,key,ck,val,pg,ct,rfl,hk1,hk2⟩:=CV.form hx;obtain ⟨L,lc,rfl,hm,hc⟩:=h.rd.slice;have hA:Below w.heap.size w (w.alloc (.cells #[.slice A key.length ca,.int .i64 ck,.slice B val.length cb,.int .i64 pg,.int .i64 ct] 43)):=(Below.refl _ _).alloc (Nat.le_refl _) _;have hC:=OBlk.new' w 43 [.slice A key.length ca,.int .i64 ck,.slice B val.length cb,.int .i64 pg,.int .i64 ct];have hB:=h.blk.alloc (.cells #[.slice A key.length ca,.int .i64 ck,.slice B val.length cb,.int .i64 pg,.int .i64 ct] 43);have hx1:=hx.below hA;have hL:=h.rd.below hA;have hma:=fun W=>oI ⟨.slice A key.length ca,.slice B val.length cb,⟨key,ck,val,pg,ct⟩⟩ kind hkd P hP W;unfold zJ at hma⊢;have HM:=Lib.hid hma;obtain ⟨lO,hlO⟩:∃q,jB (pcs l) i ⟨key,ck,val,pg,ct⟩=q:=⟨_,rfl⟩;obtain ⟨rO,hrO⟩:∃q,yY (pcs l) j ⟨key,ck,val,pg,ct⟩=q:=⟨_,rfl⟩;obtain ⟨mB,hmB⟩:∃q,zQ kind P ⟨key,ck,val,pg,ct⟩=q:=⟨_,rfl⟩
 show Calls Tryz.prog _ _ w fun e w'=>e= .returned (.int .i64 (if zQ kind P ⟨key,ck,val,pg,ct⟩=false then 62 else if 0≤jB (pcs l) i ⟨key,ck,val,pg,ct⟩∨0≤yY (pcs l) j ⟨key,ck,val,pg,ct⟩ then 63 else 0))∧Below w.heap.size w w'
 rw [hlO,hrO,hmB]
 have HLO:Hid ((bf= -1∧lO= -1)∨∃k:Nat,bf=(k:Int)∧∃h:k<l.length,lO=yD l[k].c.key key):=Lib.hid (by
  rcases Nat.eq_zero_or_pos i with e|e
  ·exact .inl ⟨by omega,by rw [←hlO,e,sF]⟩
  ·obtain ⟨k,rfl⟩:∃k,i=k+1:=⟨i-1,by omega⟩;refine .inr ⟨k,by omega,by omega,?_⟩
   rw [←hlO,r8 _ (by rw [zA];omega),zV (by omega)])
 have HRO:Hid ((j=l.length∧rO= -1)∨∃h:j<l.length,rO=yD key l[j].c.key):=Lib.hid (by
  by_cases e:j<l.length
  ·refine .inr ⟨e,?_⟩;rw [←hrO,tZ _ (by rw [zA];omega),zV e]
  ·exact .inl ⟨by omega,by rw [←hrO,sA _ (by rw [zA];omega)]⟩)
 have HXK:=Lib.hid hx1.k;clear hma h hx hlO hrO hbf;have hpl:=hB.lt
 obtain ⟨Z,hZ⟩:∃Z:Int,(if mB=false then 62 else if 0≤lO∨0≤rO then 63 else 0)=Z:=⟨_,rfl⟩
 rw [hZ];have HZ:=Lib.hid hZ;clear hZ;go_enter Tryz.func227,Tryz.ntmps227;go_upto_region 1 with (fail);generalize (w.alloc (.cells #[.slice A key.length ca,.int .i64 ck,.slice B val.length cb,.int .i64 pg,.int .i64 ct] 43))=w1 at*;obtain ⟨c0,c1,c2,c3,c4⟩:=zC hC;obtain ⟨b0,b1,b2,b3,b4,b5⟩:=yZ hB;have hcl:=hC.lt
 go_cut [9] (fun s wx=>s= .bool (!mB)∧Below w1.heap.size w1 wx)
 case first=>
  go_region_held3 (fun w'=>w'.cell? ⟨w.heap.size,0,none⟩=some (.slice A key.length ca)∧w'.cell? ⟨w.heap.size,1,none⟩=some (.int .i64 ck)∧w'.cell? ⟨w.heap.size,2,none⟩=some (.slice B val.length cb)∧w'.cell? ⟨w.heap.size,3,none⟩=some (.int .i64 pg)∧w'.cell? ⟨w.heap.size,4,none⟩=some (.int .i64 ct)∧w'.cell? ⟨p,0,none⟩=some (.int .i64 kind)∧w'.cell? ⟨p,1,none⟩=some (.int .i64 (P:Int)))
   (first
    |exact ⟨c0,c1,c2,c3,c4,b0,b1⟩
    |(obtain ⟨d0,d1,d2,d3,d4⟩:=zC (hC.drew.below hw2 hcl);obtain ⟨f0,f1,_,_,_,_⟩:=yZ (hB.drew.below hw2 hpl);exact ⟨d0,d1,d2,d3,d4,f0,f1⟩))
   (first
    |(go_at_call 140;refine (HM.out _ (hx1.below ((Below.refl _ _).drew))).mono ?_;rw [hmB];rintro e w2 ⟨rfl,hw2⟩)
    |fail)
  go_wp2_with fail;go_meet;exact ⟨rfl,(Below.refl _ _).drew.trans hw2⟩
 case rest=>
  obtain ⟨rfl,hw2⟩:=hcut;have hB2:=hB.below hw2 hpl;have hA2:=hA.trans (hw2.mono hA.size)
  cases mB with
  |false=>
   have e:Z=62:=by rw [←HZ.out];rfl
   subst e;go_wp2_with fail;go_ret;exact ⟨rfl,hA2⟩
  |true=>
   have hC2:=hC.below hw2 hcl;have hL2:=hL.below hw2;have hxk2:=HXK.out.below hw2 (Nat.le_refl _);clear c0 c1 c2 c3 c4 b0 b1 b2 b3 b4 b5 hC hB hx1 hL hA hw2;obtain ⟨c0,c1,c2,c3,c4⟩:=zC hC2;obtain ⟨b0,b1,b2,b3,b4,b5⟩:=yZ hB2;have hcl2:=hC2.lt;have hpl2:=hB2.lt;go_upto_region 3 with (fail)
   go_cut [21] (fun s wx=>s= .bool (decide (0≤lO))∧Below wc.heap.size wc wx)
   case first=>
    rcases HLO.out with ⟨rfl,rfl⟩|⟨k,rfl,hk,rfl⟩
    ·go_region
     go_wp2_with fail;go_meet;exact ⟨rfl,(Below.refl _ _).drew⟩
    ·obtain ⟨ad,K,kc,rfl,q0,hkr⟩:=hL2.key_at' hk
     have j1:(0:Int)≤(k:Int):=by omega
     have j2:(k:Int)<(l.length:Int):=by omega
     have hcmp:=fun m=>vE _ _ _ _ (wc.drewN m) (show RdB (wc.drewN m) _ _ from hkr) (show RdB (wc.drewN m) _ _ from hxk2);simp only at hcmp;have HCM:=Lib.hid hcmp;clear hcmp;generalize yD l[k].c.key key=oc at*;generalize l[k].c.key=lk at*
     go_region_held3 (fun w'=>w'.cell? (ad.add (k*5))=some (.slice K lk.length kc)∧w'.cell? ⟨w.heap.size,0,none⟩=some (.slice A key.length ca)∧w'.cell? ⟨p,2,none⟩=some (.slice (some ad) l.length lc))
      (first|exact ⟨q0,c0,b2⟩)
      (first
       |(go_at_call 130;refine (HCM.out 1).mono ?_;rintro e w7 ⟨rfl,rfl⟩)
       |fail)
     go_wp2_with fail;go_meet;exact ⟨rfl,(Below.refl _ _).drew⟩
   case rest=>
    obtain ⟨rfl,hw3⟩:=hcut;have hC3:=hC2.below hw3 hcl2;have hB3:=hB2.below hw3 hpl2;have hA3:=hA2.trans (hw3.mono hA2.size)
    by_cases hlO:0≤lO
    ·rw [show decide (0≤lO)=true from decide_eq_true hlO]
     have e:Z=63:=by rw [←HZ.out,if_neg (by simp),if_pos (Or.inl hlO)]
     subst e;clear hlO;go_wp2_with fail;go_ret;exact ⟨rfl,hA3⟩
    ·have hL3:=hL2.below hw3;have hxk3:=hxk2.below hw3 (Nat.le_refl _);rw [show decide (0≤lO)=false from decide_eq_false hlO];have H1:=Lib.hid hlO;clear c0 c1 c2 c3 c4 b0 b1 b2 b3 b4 b5 hC2 hB2 hL2 hA2 hw3 hlO HLO hxk2;obtain ⟨c0,c1,c2,c3,c4⟩:=zC hC3;obtain ⟨b0,b1,b2,b3,b4,b5⟩:=yZ hB3;have hcl3:=hC3.lt;have hpl3:=hB3.lt;go_upto_region 5 with (fail)
     go_cut [38] (fun s wx=>s= .bool (decide (0≤rO))∧Below wc.heap.size wc wx)
     case first=>
      rcases HRO.out with ⟨rfl,rfl⟩|⟨hj2,rfl⟩
      ·have j5:¬(l.length:Int)<(l.length:Int):=by omega
       go_region
       go_wp2_with fail;go_meet;exact ⟨rfl,(Below.refl _ _).drew⟩
      ·obtain ⟨ad,K,kc,rfl,q0,hkr⟩:=hL3.key_at' hj2
       have j1:(0:Int)≤(j:Int):=by omega
       have j2:(j:Int)<(l.length:Int):=by omega
       have hcmp:=fun m=>vE _ _ _ _ (wc.drewN m) (show RdB (wc.drewN m) _ _ from hxk3) (show RdB (wc.drewN m) _ _ from hkr);simp only at hcmp;have HCM:=Lib.hid hcmp;clear hcmp;generalize yD key l[j].c.key=oc at*;generalize l[j].c.key=lk at*
       go_region_held3 (fun w'=>w'.cell? (ad.add (j*5))=some (.slice K lk.length kc)∧w'.cell? ⟨w.heap.size,0,none⟩=some (.slice A key.length ca)∧w'.cell? ⟨p,2,none⟩=some (.slice (some ad) l.length lc))
        (first|exact ⟨q0,c0,b2⟩)
        (first
         |(go_at_call 130;refine (HCM.out 1).mono ?_;rintro e w7 ⟨rfl,rfl⟩)
         |fail)
       go_wp2_with fail;go_meet;exact ⟨rfl,(Below.refl _ _).drew⟩
     case rest=>
      obtain ⟨rfl,hw4⟩:=hcut;have hA4:=hA3.trans (hw4.mono hA3.size)
      by_cases hrO:0≤rO
      ·rw [show decide (0≤rO)=true from decide_eq_true hrO]
       have e:Z=63:=by rw [←HZ.out,if_neg (by simp),if_pos (Or.inr hrO)]
       subst e;clear hrO;go_wp2_with fail;go_ret;exact ⟨rfl,hA4⟩
      ·rw [show decide (0≤rO)=false from decide_eq_false hrO]
       have e:Z=0:=by rw [←HZ.out,if_neg (by simp),if_neg (fun e=>by have h1:=H1.out;omega)]
       subst e;clear hrO;go_wp2_with fail;go_ret;exact ⟨rfl,hA4⟩
def zKC (w0:World) (M:List Ent) (p P:Nat) (kind:Int) (u pv u':Value) (used waste:Nat) (pre:List UInt8) (l':List PC) (waste':Nat) (anew:Bool) (e:Ending) (w':World):Prop:=
 (P<zS kind l'∧e= .returned (.int .i64 61)∧Sep w0 w' (pkB p kind P u pv used waste::zB pv pre::M))∨
 (zS kind l'≤P∧e= .returned (.int .i64 0)∧∃pv',Sep w0 w' (pkB p kind P u' pv' (vF kind (xU kind P pre l' waste' anew)) (xU kind P pre l' waste' anew).waste::zB pv' (xU kind P pre l' waste' anew).pre::M))
theorem lG {w0 w:World} {M:List Ent} {p P:Nat} {kind:Int} {u pv u':Value} {used waste:Nat} {pre:List UInt8} {l':List CV} (hS:Sep w0 w (pkB p kind P u pv used waste::zB pv pre::M)) (hM:CsIn M u' l') (hf:xT (pcs l')≤140737488355328)
 (old:Nat) (ho:waste+old≤1000000) (hpre:pre.length≤1000000) (_hP:P≤65536) (anew:Bool) (hp:anew=false→PreOk kind (pcs l') pre):
 Calls Tryz.prog 228 #[.pointer (some ⟨p,0,none⟩),u',.int .i64 (old:Int),.bool anew] w (zKC w0 M p P kind u pv u' used waste pre (pcs l') (waste+old) anew):=by
 have hrd:=hM.at_ hS (fun E hE=>by simp [hE]);obtain ⟨U,uc,rfl,hm,hc⟩:=hrd.slice;have hpk:∀(i:Nat) (hi:i<(pcs l').length),¬(kind=3∧i=0)→zD kind (pcs l')≤(pcs l')[i].key.length:=fun i hi hn=>(xS (kind:=kind) hi hn).1
 have hsb:zD kind (pcs l')≤140737488355328:=by
  rcases Nat.eq_zero_or_pos (zD kind (pcs l')) with h|h
  ·omega
  ·obtain ⟨i,hi,hn⟩:=jN h;have h1:=hpk i hi hn;have h2:=bO (List.getElem_mem hi);omega
 have hsh:=g9 kind (.slice U l'.length uc) l' w hrd;have htk:∀W,RdCs W (.slice U l'.length uc) l'→Calls Tryz.prog 138 #[.int .i64 kind,.slice U l'.length uc,.int .i64 (zD kind (pcs l'):Nat)] W fun e w'=>e= .returned (.int .i64 (zS kind (pcs l'):Nat))∧Below W.heap.size W w':=fun W hW=>gB kind _ l' (zD kind (pcs l')) W hW (by omega) (by omega) hpk;have htk2:anew=false→∀W,RdCs W (.slice U l'.length uc) l'→Calls Tryz.prog 138 #[.int .i64 kind,.slice U l'.length uc,.int .i64 (pre.length:Int)] W fun e w'=>e= .returned (.int .i64 (z5 kind (pcs l') pre.length:Nat))∧Below W.heap.size W w':=fun ha W hW=>gB kind _ l' pre.length W hW (by omega) (by omega) (fun i hi hn=>(jH.1 (hp ha i hi hn)).1)
 have htb:z5 kind (pcs l') pre.length≤10+pre.length+xT (pcs l'):=by
  have:=bM kind pre.length (pcs l') (pcs l').length (by omega)
  rw [List.take_length] at this;exact this
 have hTidy:=fun W (pv2:Value) (M2:List Ent) us ws (h:Sep w0 W (pkB p kind P (.slice U l'.length uc) pv2 us ws::M2)) (h2:CsIn M2 (.slice U l'.length uc) l')=>nI h h2 hf
 have HST:Hid (anew=true∨P<z5 kind (pcs l') pre.length+(waste+old)→xU kind P pre (pcs l') (waste+old) anew=jI kind (pcs l')):=Lib.hid (fun h=>by
  unfold xU;rw [if_pos]
  rw [Bool.or_eq_true,decide_eq_true_iff];exact h)
 have HSN:Hid (anew=false→¬P<z5 kind (pcs l') pre.length+(waste+old)→xU kind P pre (pcs l') (waste+old) anew=⟨pcs l',pre,waste+old⟩):=Lib.hid (fun h h2=>by
  unfold xU;rw [if_neg]
  rw [Bool.or_eq_true,decide_eq_true_iff,not_or];exact ⟨by rw [h];simp,h2⟩)
 have HUT:Hid (vF kind (jI kind (pcs l'))=zS kind (pcs l')):=Lib.hid (bS kind (pcs l'));have HUN:Hid (vF kind ⟨pcs l',pre,waste+old⟩=z5 kind (pcs l') pre.length):=Lib.hid rfl;have hpw:=(show OwB w 0 pv pre from hS.tail.head);obtain ⟨PV,pvc,rfl⟩:=Own.slice hpw;unfold zKC;generalize xU kind P pre (pcs l') (waste+old) anew=CS at*;generalize zD kind (pcs l')=s at*;generalize zS kind (pcs l')=z at*;generalize z5 kind (pcs l') pre.length=tk at*;have HTK:=Lib.hid htk;have HTK2:=Lib.hid htk2;have HTD:=Lib.hid hTidy;have hbp:OBlk w p 150 [.int .i64 kind,.int .i64 (P:Int),u,.slice PV pre.length pvc,.int .i64 (used:Int),.int .i64 (waste:Int)]:=hS.head;obtain ⟨b0,b1,b2,b3,b4,b5⟩:=yZ hbp;have hbb:=hf;clear htk htk2 hTidy hpk hpw hp hf hrd;go_enter Tryz.func228,Tryz.ntmps228
 go_upto_region 2 with (first
  |(go_at_call 139;(with_reducible refine hsh.mono ?_);rintro e w2 ⟨rfl,hw2⟩)
  |fail)
 have hS2:=hS.below hw2;clear hsh hS hw2 hbp b0 b1 b2 b3 b4 b5;have hbp:OBlk w2 p 150 [.int .i64 kind,.int .i64 (P:Int),u,.slice PV pre.length pvc,.int .i64 (used:Int),.int .i64 (waste:Int)]:=hS2.head;obtain ⟨b0,b1,b2,b3,b4,b5⟩:=yZ hbp;have htk:=HTK.out w2.drew (hM.at_ hS2.drew (fun E hE=>by simp [hE]));have hpz:=hbp.lt
 go_cut [27] (fun c wx=>c= .bool (decide (P<z))∧Below w2.heap.size w2 wx)
 case first=>
  go_region_held3 (fun w'=>w'.cell? ⟨p,0,none⟩=some (.int .i64 kind)∧w'.cell? ⟨p,1,none⟩=some (.int .i64 (P:Int)))
   (first|exact ⟨b0,b1⟩|(have hx:=yZ (hbp.drew.below hw3 hpz);exact ⟨hx.1,hx.2.1⟩))
   (first
    |(go_at_call 138;refine htk.mono ?_;rintro e w3 ⟨rfl,hw3⟩)
    |fail)
  go_wp2_with fail;go_meet;exact ⟨rfl,(Below.refl _ _).drew.trans hw3⟩
 case rest=>
  obtain ⟨rfl,hw3⟩:=hcut;have hS3:=hS2.below hw3;clear htk hS2 hbp b0 b1 b2 b3 b4 b5 hw3 hpz
  by_cases hz:P<z
  ·rw [show decide (P<z)=true from decide_eq_true hz];go_wp2_with fail;go_ret;exact .inl ⟨hz,rfl,hS3⟩
  ·rw [show decide (P<z)=false from decide_eq_false hz];have HZ:Hid (z≤P):=Lib.hid (by omega);clear hz;have hbp:OBlk wc p 150 [.int .i64 kind,.int .i64 (P:Int),u,.slice PV pre.length pvc,.int .i64 (used:Int),.int .i64 (waste:Int)]:=hS3.head;obtain ⟨b0,b1,b2,b3,b4,b5⟩:=yZ hbp;have f2:=hbp.frozen (j:=2) (by simp);have f5:=hbp.frozen (j:=5) (by simp)
   have e1:IntKind.i64.wrap ((waste:Int)+(old:Int))=(waste:Int)+(old:Int):=by rw [IntKind.wrap_i64];omega
   go_upto_if 41 with (fail)
   have hS4:=(hS3.setCell 2 (.slice U l'.length uc)).setCell 5 (.int .i64 ((waste:Int)+(old:Int)))
   have hS4:Sep w0 ((wc.setCell ⟨p,2,none⟩ (.slice U l'.length uc)).setCell ⟨p,5,none⟩ (.int .i64 ((waste:Int)+(old:Int)))) (pkB p kind P (.slice U l'.length uc) (.slice PV pre.length pvc) used (waste+old)::zB (.slice PV pre.length pvc) pre::M):=by
    unfold pkB;rw [Int.natCast_add];exact hS4
   clear hS3 hbp b0 b1 b2 b3 b4 b5 f2 f5;generalize (wc.setCell ⟨p,2,none⟩ (.slice U l'.length uc)).setCell ⟨p,5,none⟩ (.int .i64 ((waste:Int)+(old:Int)))=w4 at*
   cases anew with
   |true=>
    have hT:=HTD.out w4 _ _ _ _ hS4 (fun W hW=>hM W (fun E hE=>hW E (by simp [hE])));have HCS:Hid (CS=jI kind (pcs l')):=Lib.hid (HST.out (.inl rfl));clear hS4
    go_wp2_with (first
     |(go_at_call 137;(with_reducible refine hT.mono ?_);rintro e w5 ⟨⟨x,rfl⟩,pv',hS5⟩)
     |fail)
    go_ret;refine .inr ⟨HZ.out,rfl,pv',?_⟩;rw [HCS.out,HUT.out];exact (Sep.sub hS5 (((List.sublist_cons_self _ _).cons_cons _).cons_cons _))
   |false=>
    have hbp:OBlk w4 p 150 [.int .i64 kind,.int .i64 (P:Int),.slice U l'.length uc,.slice PV pre.length pvc,.int .i64 (used:Int),.int .i64 ((waste+old:Nat):Int)]:=hS4.head;obtain ⟨b0,b1,b2,b3,b4,b5⟩:=yZ hbp;have hpz:=hbp.lt;have htk:=HTK2.out rfl w4.drew (hM.at_ hS4.drew (fun E hE=>by simp [hE]));go_upto_region 7 with (fail)
    go_cut [] (fun wx=>Sep w0 wx (pkB p kind P (.slice U l'.length uc) (.slice PV pre.length pvc) tk (waste+old)::zB (.slice PV pre.length pvc) pre::M))
    case first=>
     go_region_law
      (first
       |(go_simp;go_at_call 138;refine htk.mono ?_;rintro e w5 ⟨rfl,hw5⟩;have hB5:=hbp.drew.below hw5 hpz;obtain ⟨d0,d1,d2,d3,d4,d5⟩:=yZ hB5;have g4:=hB5.frozen (j:=4) (by simp);have hS5:=hS4.drew.below hw5)
       |fail)
     all_goals
      go_wp2_with fail;go_meet;exact hS5.setCell 4 (.int .i64 (tk:Int))
    case rest=>
     have hS6:=hcut;clear hS4 hbp b0 b1 b2 b3 b4 b5 htk hpz hcut;have hbp:OBlk wc p 150 [.int .i64 kind,.int .i64 (P:Int),.slice U l'.length uc,.slice PV pre.length pvc,.int .i64 (tk:Int),.int .i64 ((waste+old:Nat):Int)]:=hS6.head;obtain ⟨b0,b1,b2,b3,b4,b5⟩:=yZ hbp
     have e2:IntKind.i64.wrap ((tk:Int)+((waste:Int)+(old:Int)))=(tk:Int)+((waste:Int)+(old:Int)):=by rw [IntKind.wrap_i64];omega
     rw [Int.natCast_add] at b5
     by_cases hful:P<tk+(waste+old)
     ·have i1:(P:Int)<(tk:Int)+((waste:Int)+(old:Int)):=by omega
      have HCS:Hid (CS=jI kind (pcs l')):=Lib.hid (HST.out (.inr hful));clear hful;go_upto_region 8 with (fail);go_quiet (fail);have hT:=HTD.out _ _ _ _ _ (hS6.drewN nq) (fun W hW=>hM W (fun E hE=>hW E (by simp [hE])))
      go_wp2_with (first
       |(go_at_call 137;refine hT.mono ?_;rintro e w5 ⟨⟨x,rfl⟩,pv',hS5⟩)
       |fail)
      go_ret;refine .inr ⟨HZ.out,rfl,pv',?_⟩;rw [HCS.out,HUT.out];exact (Sep.sub hS5 (((List.sublist_cons_self _ _).cons_cons _).cons_cons _))
     ·have i1:¬(P:Int)<(tk:Int)+((waste:Int)+(old:Int)):=by omega
      have HCS:Hid (CS=⟨pcs l',pre,waste+old⟩):=Lib.hid (HSN.out rfl hful);clear hful;go_upto_region 8 with (fail);go_quiet (fail);have hS7:=hS6.drewN nq;go_wp2_with fail;go_ret;refine .inr ⟨HZ.out,rfl,.slice PV pre.length pvc,?_⟩;rw [HCS.out,HUN.out];exact hS7
end Go.Proofs.YtfcnkpofcekmgaaGreat
