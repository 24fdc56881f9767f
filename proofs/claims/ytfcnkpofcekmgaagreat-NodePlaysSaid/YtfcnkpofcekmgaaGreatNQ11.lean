/- Texts joined. -/
import Derived.Test.YtfcnkpofcekmgaaGreatNQ10
set_option maxRecDepth 100000
set_option maxHeartbeats 64000000
namespace Go.Proofs.YtfcnkpofcekmgaaGreat
open Go.RowKit
theorem gT (p:Int) (hp: -9223372036854775808≤p∧p≤9223372036854775807) (w:World):Calls Tryz.prog 136 #[.int .i64 p] w fun e w'=>e= .returned (.bool (zT p))∧w=w':=by
 by_cases h1:p<512
 ·have HV:=Lib.hid (qI (.inl h1));go_enter Tryz.func136,Tryz.ntmps136;go_wp2_with fail;go_ret;rw [HV.out];exact ⟨rfl,rfl⟩
 by_cases h2:65536<p
 ·have HV:=Lib.hid (qI (.inr h2));go_enter Tryz.func136,Tryz.ntmps136;go_wp2_with fail;go_ret;rw [HV.out];exact ⟨rfl,rfl⟩
 have hq:=uY p (by omega) (by omega);go_enter Tryz.func136,Tryz.ntmps136;go_wp2_with fail;go_ret;exact ⟨rfl,rfl⟩
theorem gZ (k:Int) (w:World):Calls Tryz.prog 135 #[.int .i64 k] w fun e w'=>e= .returned (.bool (zO k))∧w=w':=by
 by_cases h1:k=2
 ·subst h1;go_enter Tryz.func135,Tryz.ntmps135;go_wp2_with fail;go_ret;exact ⟨rfl,rfl⟩
 ·have e1:(k==2)=false:=beq_eq_false_iff_ne.2 h1
  by_cases h2:k=3
  ·subst h2;go_enter Tryz.func135,Tryz.ntmps135;go_wp2_with fail;go_ret;exact ⟨rfl,rfl⟩
  ·have e2:(k==3)=false:=beq_eq_false_iff_ne.2 h2
   have HK:Hid (zO k=false):=by show _=_;unfold zO;exact decide_eq_false (by omega)
   clear h1 h2;go_enter Tryz.func135,Tryz.ntmps135;go_wp2_with fail;go_ret;rw [HK.out];exact ⟨rfl,rfl⟩
theorem oI (x:CV) (kind:Int) (hkd:kind=2∨kind=3) (P:Nat) (hP:P≤65536) (w:World) (hx:x.ok w):Calls Tryz.prog 140 #[.int .i64 kind,zJ x,.int .i64 (P:Int)] w fun e w'=>e= .returned (.bool (zQ kind P x.c))∧Below w.heap.size w w':=by
 obtain ⟨A,ca,B,cb,key,ck,val,pg,ct,rfl,hka,hvb⟩:=CV.form hx;have hA:Below w.heap.size w (w.alloc (.cells #[.slice A key.length ca,.int .i64 ck,.slice B val.length cb,.int .i64 pg,.int .i64 ct] 43)):=(Below.refl _ _).alloc (Nat.le_refl _) _;obtain ⟨c0,c1,c2,c3,c4⟩:=zC (OBlk.new' w 43 [.slice A key.length ca,.int .i64 ck,.slice B val.length cb,.int .i64 pg,.int .i64 ct]);unfold zJ;go_enter Tryz.func140,Tryz.ntmps140;go_upto_region 2 with (fail)
 go_cut [9] (fun a wx=>a= .bool (decide (2≤pg)&&decide (pg<65536))∧wx=(w.alloc (.cells #[.slice A key.length ca,.int .i64 ck,.slice B val.length cb,.int .i64 pg,.int .i64 ct] 43)))
 case first=>
  by_cases a1:2≤pg
  ·by_cases a2:pg<65536
   ·go_wp2_with fail;go_meet;exact ⟨by simp [a1,a2],rfl⟩
   ·go_wp2_with fail;go_meet;exact ⟨by simp [a1,a2],rfl⟩
  ·by_cases a2:pg<65536
   ·go_wp2_with fail;go_meet;exact ⟨by simp [a1,a2],rfl⟩
   ·omega
 case rest=>
  obtain ⟨rfl,rfl⟩:=hcut;go_upto_region 3 with (fail)
  go_cut [10] (fun b wx=>b= .bool (decide (1≤ct)&&decide (ct≤1073741824))∧wx=(w.alloc (.cells #[.slice A key.length ca,.int .i64 ck,.slice B val.length cb,.int .i64 pg,.int .i64 ct] 43)))
  case first=>
   by_cases a3:1≤ct
   ·by_cases a4:ct≤1073741824
    ·go_wp2_with fail;go_meet;exact ⟨by simp [a3,a4],rfl⟩
    ·go_wp2_with fail;go_meet;exact ⟨by simp [a3,a4],rfl⟩
   ·by_cases a4:ct≤1073741824
    ·go_wp2_with fail;go_meet;exact ⟨by simp [a3,a4],rfl⟩
    ·omega
  case rest=>
   obtain ⟨rfl,rfl⟩:=hcut
   have hch:decide (z8 ⟨key,ck,val,pg,ct⟩)=(decide (2≤pg)&&decide (pg<65536)):=by
    rw [Bool.eq_iff_iff,Bool.and_eq_true,decide_eq_true_iff,decide_eq_true_iff,decide_eq_true_iff];exact Iff.rfl
   rcases hkd with rfl|rfl
   ·have HM:Hid (zQ 2 P ⟨key,ck,val,pg,ct⟩=(!decide (P/8<key.length)&&(!((ck !=1)&&decide (0<val.length))&&(!(key.length==0)&&(bif ck==1 then decide (val.length≤P/16*3)&&((pg==0)&&(ct==0)) else bif ck==2 then (decide (2≤pg)&&decide (pg<65536))&&(decide ((P:Int)/16*3<ct)&&decide (ct≤65536)) else bif ck==4 then ((decide (2≤pg)&&decide (pg<65536))&&(decide (1≤ct)&&decide (ct≤1073741824)))||((pg==0)&&(ct==0)) else false))))):=by
     show _=_
     rw [←hch];unfold zQ;simp only
     by_cases h1:P/8<key.length
     ·simp [h1]
     by_cases h2:key.length=0
     ·simp [h2]
     by_cases h3:ck=1
     ·subst h3;rw [if_neg (by omega),if_neg (by omega),if_pos rfl,show ((1:Int)==1)=true from rfl,cond_true];unfold yC;rw [Bool.eq_iff_iff];simp [h1,h2]
      constructor<;>(intro h;simp_all)
     by_cases h4:0<val.length
     ·rw [if_pos (by omega)];simp [h3,h4]
     ·rw [if_neg (by omega),if_neg (by omega),if_neg h3,show (ck==1)=false from beq_eq_false_iff_ne.2 h3,cond_false];have hkk:key≠ []:=fun e=>h2 (by rw [e];rfl);have hvv:val= []:=List.eq_nil_of_length_eq_zero (by omega)
      by_cases h5:ck=2
      ·rw [if_pos h5,show (ck==2)=true from beq_iff_eq.2 h5,cond_true,Bool.eq_iff_iff];simp [h1,hkk,hvv]
      ·rw [if_neg h5,show (ck==2)=false from beq_eq_false_iff_ne.2 h5,cond_false]
       by_cases h6:ck=4
       ·rw [if_pos h6,show (ck==4)=true from beq_iff_eq.2 h6,cond_true];unfold yC;rw [Bool.eq_iff_iff];simp [h1,hkk,hvv]
        constructor<;>(rintro (h|h)<;>simp_all)
       ·rw [if_neg h6,show (ck==4)=false from beq_eq_false_iff_ne.2 h6,cond_false];simp
    clear hch;generalize (decide (2≤pg)&&decide (pg<65536))=ch at*;generalize (decide (1≤ct)&&decide (ct≤1073741824))=cn at*
    by_cases b1:P/8<key.length
    ·have b1i:((P:Int)/8<(key.length:Int)):=by omega
     have b1d:=Lib.hid (decide_eq_true b1);go_wp2_with fail;go_ret;refine ⟨?_,hA⟩;rw [HM.out]
     first|(simp [b1d.out];done)|(simp [b1d.out];rfl)
    ·have b1i:¬((P:Int)/8<(key.length:Int)):=by omega
     have b1d:=Lib.hid (decide_eq_false b1)
     by_cases k1:ck=1
     ·subst k1;rcases Bool.eq_false_or_eq_true (((key.length:Nat):Int)==0) with z0|z0
      ·have z2:(key.length==0)=true:=by have:=z0;rw [beq_iff_eq] at this⊢;omega
       have Z2:=Lib.hid z2;clear z2;go_wp2_with fail;go_ret;refine ⟨?_,hA⟩;rw [HM.out]
       first|(simp [b1d.out,Z2.out];done)|(simp [b1d.out,Z2.out];rfl)
      ·have z2:(key.length==0)=false:=by have:=z0;rw [beq_eq_false_iff_ne] at this⊢;omega
       have Z2:=Lib.hid z2;clear z2
       by_cases v2:val.length≤P/16*3
       ·have v2i:((val.length:Int)≤(P:Int)/16*3):=by omega
        have v2d:=Lib.hid (decide_eq_true v2)
        by_cases p0:pg=0
        ·subst p0
         by_cases c0:ct=0
         ·subst c0;go_wp2_with fail;go_ret;refine ⟨?_,hA⟩;rw [HM.out]
          first|(simp [b1d.out,Z2.out,v2d.out];done)|(simp [b1d.out,Z2.out,v2d.out];rfl)
         ·have c0b:(ct==0)=false:=beq_eq_false_iff_ne.2 c0
          have c0c:(ct !=0)=true:=by rw [bne,c0b];rfl
          go_wp2_with fail;go_ret;refine ⟨?_,hA⟩;rw [HM.out]
          first|(simp [b1d.out,Z2.out,v2d.out,c0b];done)|(simp [b1d.out,Z2.out,v2d.out,c0b,c0c];rfl)
        ·have p0b:(pg==0)=false:=beq_eq_false_iff_ne.2 p0
         have p0c:(pg !=0)=true:=by rw [bne,p0b];rfl
         go_wp2_with fail;go_ret;refine ⟨?_,hA⟩;rw [HM.out]
         first|(simp [b1d.out,Z2.out,v2d.out,p0b];done)|(simp [b1d.out,Z2.out,v2d.out,p0b,p0c];rfl)
       ·have v2i:¬((val.length:Int)≤(P:Int)/16*3):=by omega
        have v2d:=Lib.hid (decide_eq_false v2);go_wp2_with fail;go_ret;refine ⟨?_,hA⟩;rw [HM.out]
        first|(simp [b1d.out,Z2.out,v2d.out];done)|(simp [b1d.out,Z2.out,v2d.out];rfl)
     ·have k1b:(ck==1)=false:=beq_eq_false_iff_ne.2 k1
      have k1c:(ck !=1)=true:=by rw [bne,k1b];rfl
      by_cases v0:0<val.length
      ·have v0i:((0:Int)<(val.length:Int)):=by omega
       have v0d:=Lib.hid (decide_eq_true v0);go_wp2_with fail;go_ret;refine ⟨?_,hA⟩;rw [HM.out]
       first|(simp [b1d.out,k1b,k1c,v0d.out];done)|(simp [b1d.out,k1b,k1c,v0d.out];rfl)
      ·have v0i:¬((0:Int)<(val.length:Int)):=by omega
       have v0d:=Lib.hid (decide_eq_false v0);rcases Bool.eq_false_or_eq_true (((key.length:Nat):Int)==0) with z0|z0
       ·have z2:(key.length==0)=true:=by have:=z0;rw [beq_iff_eq] at this⊢;omega
        have Z2:=Lib.hid z2;clear z2;go_wp2_with fail;go_ret;refine ⟨?_,hA⟩;rw [HM.out]
        first|(simp [b1d.out,k1b,k1c,v0d.out,Z2.out];done)|(simp [b1d.out,k1b,k1c,v0d.out,Z2.out];rfl)
       ·have z2:(key.length==0)=false:=by have:=z0;rw [beq_eq_false_iff_ne] at this⊢;omega
        have Z2:=Lib.hid z2;clear z2
        by_cases k2:ck=2
        ·subst k2
         cases ch with
         |true=>
          by_cases d3:(P:Int)/16*3<ct
          ·have d3d:=Lib.hid (decide_eq_true d3)
           by_cases d4:ct≤65536
           ·have d4d:=Lib.hid (decide_eq_true d4);go_wp2_with fail;go_ret;refine ⟨?_,hA⟩;rw [HM.out]
            first|(simp [b1d.out,k1b,k1c,v0d.out,Z2.out,d3d.out,d4d.out];done)|(simp [b1d.out,k1b,k1c,v0d.out,Z2.out,d3d.out,d4d.out];rfl)
           ·have d4d:=Lib.hid (decide_eq_false d4);go_wp2_with fail;go_ret;refine ⟨?_,hA⟩;rw [HM.out]
            first|(simp [b1d.out,k1b,k1c,v0d.out,Z2.out,d3d.out,d4d.out];done)|(simp [b1d.out,k1b,k1c,v0d.out,Z2.out,d3d.out,d4d.out];rfl)
          ·have d3d:=Lib.hid (decide_eq_false d3);go_wp2_with fail;go_ret;refine ⟨?_,hA⟩;rw [HM.out]
           first|(simp [b1d.out,k1b,k1c,v0d.out,Z2.out,d3d.out];done)|(simp [b1d.out,k1b,k1c,v0d.out,Z2.out,d3d.out];rfl)
         |false=>
          go_wp2_with fail;go_ret;refine ⟨?_,hA⟩;rw [HM.out]
          first|(simp [b1d.out,k1b,k1c,v0d.out,Z2.out];done)|(simp [b1d.out,k1b,k1c,v0d.out,Z2.out];rfl)
        ·have k2b:(ck==2)=false:=beq_eq_false_iff_ne.2 k2
         have k2c:(ck !=2)=true:=by rw [bne,k2b];rfl
         by_cases k4:ck=4
         ·subst k4
          cases ch with
          |true=>
           cases cn with
           |true=>
            go_wp2_with fail;go_ret;refine ⟨?_,hA⟩;rw [HM.out]
            first|(simp [b1d.out,k1b,k1c,v0d.out,Z2.out,k2b];done)|(simp [b1d.out,k1b,k1c,v0d.out,Z2.out,k2b,k2c];rfl)
           |false=>
            by_cases p0:pg=0
            ·subst p0
             by_cases c0:ct=0
             ·subst c0;go_wp2_with fail;go_ret;refine ⟨?_,hA⟩;rw [HM.out]
              first|(simp [b1d.out,k1b,k1c,v0d.out,Z2.out,k2b];done)|(simp [b1d.out,k1b,k1c,v0d.out,Z2.out,k2b,k2c];rfl)
             ·have c0b:(ct==0)=false:=beq_eq_false_iff_ne.2 c0
              have c0c:(ct !=0)=true:=by rw [bne,c0b];rfl
              go_wp2_with fail;go_ret;refine ⟨?_,hA⟩;rw [HM.out]
              first|(simp [b1d.out,k1b,k1c,v0d.out,Z2.out,k2b,c0b];done)|(simp [b1d.out,k1b,k1c,v0d.out,Z2.out,k2b,k2c,c0b,c0c];rfl)
            ·have p0b:(pg==0)=false:=beq_eq_false_iff_ne.2 p0
             have p0c:(pg !=0)=true:=by rw [bne,p0b];rfl
             go_wp2_with fail;go_ret;refine ⟨?_,hA⟩;rw [HM.out]
             first|(simp [b1d.out,k1b,k1c,v0d.out,Z2.out,k2b,p0b];done)|(simp [b1d.out,k1b,k1c,v0d.out,Z2.out,k2b,k2c,p0b,p0c];rfl)
          |false=>
           by_cases p0:pg=0
           ·subst p0
            by_cases c0:ct=0
            ·subst c0;go_wp2_with fail;go_ret;refine ⟨?_,hA⟩;rw [HM.out]
             first|(simp [b1d.out,k1b,k1c,v0d.out,Z2.out,k2b];done)|(simp [b1d.out,k1b,k1c,v0d.out,Z2.out,k2b,k2c];rfl)
            ·have c0b:(ct==0)=false:=beq_eq_false_iff_ne.2 c0
             have c0c:(ct !=0)=true:=by rw [bne,c0b];rfl
             go_wp2_with fail;go_ret;refine ⟨?_,hA⟩;rw [HM.out]
             first|(simp [b1d.out,k1b,k1c,v0d.out,Z2.out,k2b,c0b];done)|(simp [b1d.out,k1b,k1c,v0d.out,Z2.out,k2b,k2c,c0b,c0c];rfl)
           ·have p0b:(pg==0)=false:=beq_eq_false_iff_ne.2 p0
            have p0c:(pg !=0)=true:=by rw [bne,p0b];rfl
            go_wp2_with fail;go_ret;refine ⟨?_,hA⟩;rw [HM.out]
            first|(simp [b1d.out,k1b,k1c,v0d.out,Z2.out,k2b,p0b];done)|(simp [b1d.out,k1b,k1c,v0d.out,Z2.out,k2b,k2c,p0b,p0c];rfl)
         ·have k4b:(ck==4)=false:=beq_eq_false_iff_ne.2 k4
          have k4c:(ck !=4)=true:=by rw [bne,k4b];rfl
          go_wp2_with fail;go_ret;refine ⟨?_,hA⟩;rw [HM.out]
          first|(simp [b1d.out,k1b,k1c,v0d.out,Z2.out,k2b,k4b];done)|(simp [b1d.out,k1b,k1c,v0d.out,Z2.out,k2b,k2c,k4b,k4c];rfl)
   ·have HM:Hid (zQ 3 P ⟨key,ck,val,pg,ct⟩=(!decide (P/8<key.length)&&(!((ck !=1)&&decide (0<val.length))&&((ck==3)&&((decide (2≤pg)&&decide (pg<65536))&&(decide (1≤ct)&&decide (ct≤1073741824))))))):=by
     show _=_
     rw [←hch];unfold zQ;simp only
     by_cases h1:P/8<key.length
     ·simp [h1]
     by_cases h3:ck=3
     ·subst h3
      by_cases h4:0<val.length
      ·rw [if_pos (by omega)];simp [h4]
      ·rw [if_neg (by omega),if_pos trivial,Bool.eq_iff_iff];have hvv:val= []:=List.eq_nil_of_length_eq_zero (by omega);simp [h1,hvv]
     ·by_cases h5:(ck≠1∧0<val.length)
      ·rw [if_pos (by omega)];simp [h3]
      ·rw [if_neg (by omega),if_pos trivial];simp [h3]
    clear hch;generalize (decide (2≤pg)&&decide (pg<65536))=ch at*;generalize (decide (1≤ct)&&decide (ct≤1073741824))=cn at*
    by_cases b1:P/8<key.length
    ·have b1i:((P:Int)/8<(key.length:Int)):=by omega
     have b1d:=Lib.hid (decide_eq_true b1);go_wp2_with fail;go_ret;refine ⟨?_,hA⟩;rw [HM.out]
     first|(simp [b1d.out];done)|(simp [b1d.out];rfl)
    ·have b1i:¬((P:Int)/8<(key.length:Int)):=by omega
     have b1d:=Lib.hid (decide_eq_false b1)
     by_cases k1:ck=1
     ·subst k1;go_wp2_with fail;go_ret;refine ⟨?_,hA⟩;rw [HM.out]
      first|(simp [b1d.out];done)|(simp [b1d.out];rfl)
     ·have k1b:(ck==1)=false:=beq_eq_false_iff_ne.2 k1
      have k1c:(ck !=1)=true:=by rw [bne,k1b];rfl
      by_cases v0:0<val.length
      ·have v0i:((0:Int)<(val.length:Int)):=by omega
       have v0d:=Lib.hid (decide_eq_true v0);go_wp2_with fail;go_ret;refine ⟨?_,hA⟩;rw [HM.out]
       first|(simp [b1d.out,k1c,v0d.out];done)|(simp [b1d.out,k1b,k1c,v0d.out];rfl)
      ·have v0i:¬((0:Int)<(val.length:Int)):=by omega
       have v0d:=Lib.hid (decide_eq_false v0)
       by_cases k3:ck=3
       ·subst k3
        cases ch with
        |true=>
         cases cn with
         |true=>
          go_wp2_with fail;go_ret;refine ⟨?_,hA⟩;rw [HM.out]
          first|(simp [b1d.out,k1c,v0d.out];done)|(simp [b1d.out,k1b,k1c,v0d.out];rfl)
         |false=>
          go_wp2_with fail;go_ret;refine ⟨?_,hA⟩;rw [HM.out]
          first|(simp [b1d.out,k1c,v0d.out];done)|(simp [b1d.out,k1b,k1c,v0d.out];rfl)
        |false=>
         go_wp2_with fail;go_ret;refine ⟨?_,hA⟩;rw [HM.out]
         first|(simp [b1d.out,k1c,v0d.out];done)|(simp [b1d.out,k1b,k1c,v0d.out];rfl)
       ·have k3b:(ck==3)=false:=beq_eq_false_iff_ne.2 k3
        have k3c:(ck !=3)=true:=by rw [bne,k3b];rfl
        go_wp2_with fail;go_ret;refine ⟨?_,hA⟩;rw [HM.out]
        first|(simp [b1d.out,k1c,v0d.out,k3b];done)|(simp [b1d.out,k1b,k1c,v0d.out,k3b,k3c];rfl)
theorem bP (n:Nat) (hn:n<18446744073709551616) (w:World):
 Calls Tryz.prog 178 #[.int .u64 (n:Int)] w fun e w'=>e= .returned (.int .i64 ((zR n).length:Nat))∧w'=w:=by
 have HL:=Lib.hid (yF hn);go_enter Tryz.func178,Tryz.ntmps178;go_wp2_with fail
 go_loop [0,3] (fun m v=>∃(k j:Nat),m= .int .u64 (k:Int)∧k<18446744073709551616∧v= .int .i64 ((j:Int)+1)∧j≤10∧Hid ((zR n).length=j+(zR k).length))
  (fun m _=>(intOf m).toNat)
 case atStart=>exact ⟨n,0,rfl,hn,rfl,by omega,Lib.hid (by omega)⟩
 case round=>
  obtain ⟨k,j,rfl,hk,rfl,hj,HE⟩:=hrel
  by_cases h:k<128
  ·have he:(zR n).length=j+1:=by rw [HE.out,kL h];rfl
   have HE2:=Lib.hid he;clear he HE;go_wp2_with fail;go_ret;exact ⟨by rw [HE2.out];go_num,rfl⟩
  ·have he:(zR n).length=(j+1)+(zR (k/128)).length:=by rw [HE.out,kM h,List.length_cons];omega
   have hp:=vQ (k/128)
   have hj2:j+1≤9:=by have:=HL.out;omega
   have HE2:=Lib.hid he;clear he HE hp;go_wp2_with fail
   go_round
   case rel=>exact ⟨k/128,j+1,by go_num,by omega,by go_num,by omega,HE2⟩
   case measure=>simp [intOf];omega
theorem wD (kind:Int) (i:Nat) (x:CV) (pre:Nat) (w:World) (hx:x.ok w) (hp:¬(kind=3∧i=0)→pre≤x.c.key.length):
 Calls Tryz.prog 170 #[.int .i64 kind,.int .i64 (i:Int),zJ x,.int .i64 (pre:Int)] w fun e w'=>∃A c,e= .returned (.slice A (yI kind i x.c.key pre).length c)∧RdB w (.slice A (yI kind i x.c.key pre).length c) (yI kind i x.c.key pre)∧Below w.heap.size w w':=by
 obtain ⟨A,ca,B,cb,key,ck,val,pg,ct,rfl,hka,hvb⟩:=CV.form hx;have hA:Below w.heap.size w (w.alloc (.cells #[.slice A key.length ca,.int .i64 ck,.slice B val.length cb,.int .i64 pg,.int .i64 ct] 43)):=(Below.refl _ _).alloc (Nat.le_refl _) _;obtain ⟨c0,c1,c2,c3,c4⟩:=zC (OBlk.new' w 43 [.slice A key.length ca,.int .i64 ck,.slice B val.length cb,.int .i64 pg,.int .i64 ct]);have hk:RdB w (.slice A key.length ca) key:=hx.k;unfold zJ;simp only at hp⊢
 by_cases h:kind=3∧i=0
 ·obtain ⟨rfl,rfl⟩:=h
  have HR:Hid (yI 3 0 key pre=key):=by show _=_;unfold yI;rw [if_pos ⟨rfl,rfl⟩]
  clear hp;go_enter Tryz.func170,Tryz.ntmps170;go_wp2_with fail;go_ret;rw [HR.out];exact ⟨_,_,rfl,hk,hA⟩
 ·have HR:Hid (yI kind i key pre=key.drop pre):=by show _=_;unfold yI;rw [if_neg h]
  obtain ⟨A2,c2',hrun,hrd⟩:=hk.run_l pre (hp h);have hp':=hp h;have HRD:=Lib.hid hrd
  have hlen:(key.drop pre).length=key.length-pre:=by simp
  have HLN:=Lib.hid hlen;clear hrd hp hlen
  by_cases h3:kind=3
  ·have e1:(kind==3)=true:=by simp [h3]
   have e2:((i:Int)==0)=false:=beq_eq_false_iff_ne.2 (by omega);clear h3 h;go_enter Tryz.func170,Tryz.ntmps170;go_wp2_with fail;go_ret;rw [HR.out,HLN.out];exact ⟨_,_,rfl,HRD.out,hA⟩
  ·have e1:(kind==3)=false:=beq_eq_false_iff_ne.2 h3;clear h3 h;go_enter Tryz.func170,Tryz.ntmps170;go_wp2_with fail;go_ret;rw [HR.out,HLN.out];exact ⟨_,_,rfl,HRD.out,hA⟩
theorem kZ (n:Int):IntKind.u64.wrap n=((xZ n:Nat):Int):=by
 rw [IntKind.wrap_u64];unfold xZ;omega
theorem f6 (kind:Int) (i:Nat) (x:CV) (pre:Nat) (w:World) (hx:x.ok w) (hp:¬(kind=3∧i=0)→pre≤x.c.key.length) (hb:x.c.key.length+x.c.val.length≤4611686018427387904):
 Calls Tryz.prog 168 #[.int .i64 kind,.int .i64 (i:Int),zJ x,.int .i64 (pre:Int)] w fun e w'=>e= .returned (.int .i64 ((pcF kind i x.c pre).length:Nat))∧Below w.heap.size w w':=by
 have hrest:=fun W hW=>wD kind i x pre W hW hp
 have hlr:(yI kind i x.c.key pre).length≤x.c.key.length:=by unfold yI;split<;>simp
 have hpl:(pcF kind i x.c pre).length=1+(zR (yI kind i x.c.key pre).length).length+(yI kind i x.c.key pre).length+(kvF x.c).length:=by
  unfold pcF;simp only [List.length_cons,List.length_append];omega
 obtain ⟨A,ca,B,cb,key,ck,val,pg,ct,rfl,hka,hvb⟩:=CV.form hx;have hx':CV.ok (w.alloc (.cells #[.slice A key.length ca,.int .i64 ck,.slice B val.length cb,.int .i64 pg,.int .i64 ct] 43)) ⟨.slice A key.length ca,.slice B val.length cb,⟨key,ck,val,pg,ct⟩⟩:=hx.below ((Below.refl _ _).alloc (Nat.le_refl _) _);have hrest':=hrest _ hx';have hC:=OBlk.new' w 43 [.slice A key.length ca,.int .i64 ck,.slice B val.length cb,.int .i64 pg,.int .i64 ct];have hA:Below w.heap.size w (w.alloc (.cells #[.slice A key.length ca,.int .i64 ck,.slice B val.length cb,.int .i64 pg,.int .i64 ct] 43)):=(Below.refl _ _).alloc (Nat.le_refl _) _;unfold zJ at hrest'⊢;simp only at hrest' hb hlr hpl⊢
 have hkv1:ck=1→(kvF ⟨key,ck,val,pg,ct⟩).length=(zR val.length).length+val.length:=fun h=>by unfold kvF;rw [if_pos h,List.length_append]
 have hkv2:ck≠1→(kvF ⟨key,ck,val,pg,ct⟩).length=(zR (xZ pg)).length+(zR (xZ ct)).length:=fun h=>by unfold kvF;rw [if_neg h,List.length_append]
 obtain ⟨rl,hrl⟩:∃rl,yI kind i key pre=rl:=⟨_,rfl⟩;rw [hrl] at hrest' hlr hpl;have hu1:=yF (n:=rl.length) (by omega);have HPL:=Lib.hid hpl;have HK1:=Lib.hid hkv1;have HK2:=Lib.hid hkv2;have hw1:=bP rl.length (by omega);have HW1:=Lib.hid hw1;clear hrest hrl hpl hx hx' hkv1 hkv2 hw1;generalize hul:(zR rl.length).length=ul at*;have HUL:=Lib.hid hul;clear hul;go_enter Tryz.func168,Tryz.ntmps168
 go_upto_region 2 with (first
  |(go_at_call 170;refine hrest'.mono ?_;rintro e w1 ⟨A9,c9,rfl,hr9,hb9⟩)
  |fail)
 have hC1:=hC.below hb9 hC.lt;have hA1:=hA.trans (hb9.mono hA.size);clear hC hA hr9 hb9 hrest';obtain ⟨c0,c1,c2,c3,c4⟩:=zC hC1
 go_upto_region 3 with (first
  |(go_at_call 178;refine (HW1.out _).mono ?_;rintro e w2 ⟨rfl,rfl⟩)
  |fail)
 by_cases h1:ck=1
 ·subst h1;have hk1:=HK1.out rfl;have hu2:=yF (n:=val.length) (by omega);have hw2:=bP val.length (by omega);generalize hvl:(zR val.length).length=vl at*
  have e1:IntKind.i64.wrap (1+(ul:Int)+(rl.length:Int)+(vl:Int))=1+(ul:Int)+(rl.length:Int)+(vl:Int):=by rw [IntKind.wrap_i64];omega
  have e2:IntKind.i64.wrap (1+(ul:Int)+(rl.length:Int)+(vl:Int)+(val.length:Int))=1+(ul:Int)+(rl.length:Int)+(vl:Int)+(val.length:Int):=by rw [IntKind.wrap_i64];omega
  have HN:Hid ((pcF kind i ⟨key,1,val,pg,ct⟩ pre).length=1+ul+rl.length+vl+val.length):=Lib.hid (by rw [HPL.out,hk1];omega);clear hk1;have HW2:=Lib.hid (fun W=>bP val.length (by omega) W);rw [hvl] at HW2;clear hw2 hvl;go_upto_region 4 with (fail);go_quiet ((go_at_call 178;exact Calls.quiet_of_same (HW2.out _)));go_wp2_with fail;go_ret;exact ⟨by rw [HN.out];go_num,zK hA1 _⟩
 ·have e0:(ck==1)=false:=beq_eq_false_iff_ne.2 h1;have hk2:=HK2.out h1;have hu2:=yF (xW pg);have hu3:=yF (xW ct);have HW2:=Lib.hid (fun W=>bP (xZ pg) (xW pg) W);have HW3:=Lib.hid (fun W=>bP (xZ ct) (xW ct) W);have q1:=kZ pg;have q2:=kZ ct;generalize (zR (xZ pg)).length=vl at*;generalize (zR (xZ ct)).length=wl at*
  have e1:IntKind.i64.wrap (1+(ul:Int)+(rl.length:Int)+(vl:Int))=1+(ul:Int)+(rl.length:Int)+(vl:Int):=by rw [IntKind.wrap_i64];omega
  have e2:IntKind.i64.wrap (1+(ul:Int)+(rl.length:Int)+(vl:Int)+(wl:Int))=1+(ul:Int)+(rl.length:Int)+(vl:Int)+(wl:Int):=by rw [IntKind.wrap_i64];omega
  have HN:Hid ((pcF kind i ⟨key,ck,val,pg,ct⟩ pre).length=1+ul+rl.length+vl+wl):=Lib.hid (by rw [HPL.out,hk2];omega);clear hk2 h1;generalize xZ pg=pn at*;generalize xZ ct=cn at*;go_upto_region 5 with (fail)
  go_quiet ((first
   |(go_at_call 178;with_reducible exact Calls.quiet_of_same (HW2.out _))
   |(go_at_call 178;with_reducible exact Calls.quiet_of_same (HW3.out _))))
  go_wp2_with fail;go_ret;exact ⟨by rw [HN.out];go_num,zK hA1 _⟩
def xT:List PC→Nat
 | []=>0
 |c::r=>33+c.key.length+c.val.length+xT r
theorem qP:∀(a b:List PC),xT (a++b)=xT a+xT b
 | [],b=>by simp [xT]
 |c::r,b=>by rw [List.cons_append];simp only [xT];rw [qP r b];omega
theorem bO:∀{l:List PC} {c:PC},c∈l→33+c.key.length+c.val.length≤xT l
 |x::r,c,h=>by
  simp only [xT];rcases List.mem_cons.1 h with rfl|h
  ·omega
  ·have:=bO h;omega
theorem nN (l:List PC) (k:Nat):xT (l.take k)≤xT l:=by
 have:xT l=xT (l.take k)+xT (l.drop k):=by rw [←qP,List.take_append_drop]
 omega
theorem zDG (l:List PC) (k:Nat):xT (l.drop k)≤xT l:=by
 have:xT l=xT (l.take k)+xT (l.drop k):=by rw [←qP,List.take_append_drop]
 omega
theorem iC (kind:Int) (i pre:Nat) {c:PC} (h:c.key.length+c.val.length≤4611686018427387904):(pcF kind i c pre).length+2≤33+c.key.length+c.val.length:=by
 have hrl:(yI kind i c.key pre).length≤c.key.length:=by unfold yI;split<;>simp
 have u1:=yF (n:=(yI kind i c.key pre).length) (by omega);unfold pcF kvF;simp only [List.length_cons,List.length_append]
 split
 ·have u2:=yF (n:=c.val.length) (by omega);rw [List.length_append];omega
 ·have u2:=yF (xW c.page);have u3:=yF (xW c.count);rw [List.length_append];omega
theorem tY (kind:Int) (pre:Nat):∀(i:Nat) (l:List PC),xT l≤4611686018427387904→(zN kind pre i l).length+2*l.length≤xT l
 |_,[],_=>by simp [zN]
 |i,c::r,h=>by
  simp only [xT] at h⊢;have h1:=iC kind i pre (c:=c) (by omega);have h2:=tY kind pre (i+1) r (by omega);simp only [zN,List.length_append,List.length_cons];omega
theorem rZ (kind:Int) (pre:Nat) (l:List PC) {k:Nat} (hk:k<l.length):z5 kind (l.take (k+1)) pre=z5 kind (l.take k) pre+(2+(pcF kind k l[k] pre).length):=by
 unfold z5;rw [List.take_succ_eq_append_getElem hk,xN];simp only [zN,List.length_append,List.length_cons,List.length_nil,List.length_take,Nat.min_eq_left (Nat.le_of_lt hk),Nat.zero_add,List.append_nil];omega
theorem bM (kind:Int) (pre:Nat) (l:List PC) (k:Nat) (h:xT l≤4611686018427387904):z5 kind (l.take k) pre≤10+pre+xT l:=by
 have h1:=nN l k;have h2:=tY kind pre 0 (l.take k) (by omega);unfold z5;omega
theorem gB (kind:Int) (v:Value) (l:List CV) (pre:Nat) (w:World) (hl:RdCs w v l) (hf:xT (pcs l)≤2305843009213693952) (hpr:pre≤2305843009213693952) (hp:∀(i:Nat) (hi:i<(pcs l).length),¬(kind=3∧i=0)→pre≤(pcs l)[i].key.length):
 Calls Tryz.prog 138 #[.int .i64 kind,v,.int .i64 (pre:Int)] w fun e w'=>e= .returned (.int .i64 (z5 kind (pcs l) pre:Nat))∧Below w.heap.size w w':=by
 obtain ⟨A,c,rfl,hm,hc⟩:=hl.slice;have HP:=Lib.hid hp;have HF:=Lib.hid hf;clear hp;go_enter Tryz.func138,Tryz.ntmps138;go_wp2_with fail
 go_loopw [7,14] (fun n i wr=>∃k:Nat,k≤l.length∧i= .int .i64 (k:Int)∧n= .int .i64 (z5 kind ((pcs l).take k) pre:Nat)∧Below w.heap.size w wr) (fun _ i _=>l.length-(intOf i).toNat)
 case atStart=>exact ⟨0,Nat.zero_le _,rfl,by simp [z5,zN],Below.refl _ _⟩
 case round=>
  obtain ⟨k,hk,rfl,rfl,hB⟩:=hrel
  by_cases hlt:k<l.length
  ·have ik:(k:Int)<(l.length:Int):=by omega
   have hS:=rZ kind pre (pcs l) (k:=k) (by rw [zA];exact hlt);have hS1:=bM kind pre (pcs l) (k+1) (by have:=HF.out;omega);rw [zV hlt] at hS
   have hmem:l[k].c∈pcs l:=by rw [←zV hlt];exact List.getElem_mem _
   have hkv:l[k].c.key.length+l[k].c.val.length≤4611686018427387904:=by have:=bO hmem;have:=HF.out;omega
   have hpk:¬(kind=3∧k=0)→pre≤l[k].c.key.length:=fun h=>by rw [←zV hlt];exact HP.out k (by rw [zA];exact hlt) h
   obtain ⟨ad,rfl,c0,c1,c2,c3,c4⟩:=(hl.below hB).at_ hlt;have hx:=(hl.below hB).ok _ (List.getElem_mem hlt);generalize l[k]=x at*;obtain ⟨A1,a1,B1,b1,key,ck,val,pg,ct,rfl,_,_⟩:=CV.form hx;have hlo:=fun W hW=>f6 kind k ⟨.slice A1 key.length a1,.slice B1 val.length b1,⟨key,ck,val,pg,ct⟩⟩ pre W hW hpk hkv;unfold zJ at hlo;have hA:=hB.trans ((((Below.refl wr.heap.size wr).alloc (Nat.le_refl _) (.cells #[.slice A1 key.length a1,.int .i64 ck,.slice B1 val.length b1,.int .i64 pg,.int .i64 ct] 43))).mono hB.size);have hx':CV.ok (wr.alloc (.cells #[.slice A1 key.length a1,.int .i64 ck,.slice B1 val.length b1,.int .i64 pg,.int .i64 ct] 43)) ⟨.slice A1 key.length a1,.slice B1 val.length b1,⟨key,ck,val,pg,ct⟩⟩:=hx.below ((Below.refl _ _).alloc (Nat.le_refl _) _);have hS':z5 kind ((pcs l).take (k+1)) pre=z5 kind ((pcs l).take k) pre+(2+(pcF kind k ⟨key,ck,val,pg,ct⟩ pre).length):=hS;have HS:=Lib.hid hS'
   have hS2:z5 kind ((pcs l).take k) pre+(2+(pcF kind k ⟨key,ck,val,pg,ct⟩ pre).length)≤9223372036854775000:=by have:=HF.out;omega
   generalize z5 kind ((pcs l).take k) pre=s at*;generalize (pcF kind k ⟨key,ck,val,pg,ct⟩ pre).length=lo at*;clear hS hS' hS1 hmem hx hB hkv hpk;go_wp2_with fail;refine (hlo _ hx').mono ?_;rintro e w2 ⟨rfl,hb2⟩;have hB2:=hA.trans (hb2.mono hA.size);go_wp2_with fail;go_roundw
   case rel=>exact ⟨k+1,by omega,by go_num,by rw [HS.out];go_num,hB2⟩
   case measure=>simp [intOf];omega
  ·obtain rfl:k=l.length:=by omega
   have e:(pcs l).take l.length=pcs l:=List.take_of_length_le (by rw [zA];omega);rw [e];go_wp2_with fail;go_ret;exact ⟨rfl,hB⟩
theorem RdCs.key_at {w:World} {A:Option Addr} {m c i:Nat} {l:List CV} (h:RdCs w (.slice A m c) l) (hi:i<l.length):
 ∃ad B b,A=some ad∧w.cell? (ad.add (i*5))=some (.slice B l[i].c.key.length b)∧RdB w (.slice B l[i].c.key.length b) l[i].c.key:=by
 obtain ⟨ad,rfl,c0,-⟩:=h.at_ hi;have hx:=(h.ok _ (List.getElem_mem hi)).k;obtain ⟨B,b,he,-⟩:=hx.form;rw [he] at hx c0;exact ⟨ad,B,b,rfl,c0,hx⟩
theorem RdL.two {w:World} {u v:Value} {a b:List UInt8} (ha:RdB w u a) (hb:RdB w v b) (T:TypeId):RdL (w.alloc (.cells #[u,v] T)) (.slice (some ⟨w.heap.size,0,none⟩) 2 2) [a,b]:=
 ⟨[u,v],Rd.lit w [u,v] T (by simp [maxLen]),rfl,fun i hi=>by
  rcases (by simp at hi;omega:i=0∨i=1) with rfl|rfl
  ·exact ⟨u,rfl,ha.alloc _⟩
  ·exact ⟨v,rfl,hb.alloc _⟩⟩
theorem t5 (a b:List UInt8):vL [a,b]=yU a b:=by
 show min a.length (yU a b)=_
 have:=(fG a b).1
 omega
theorem g9 (kind:Int) (v:Value) (l:List CV) (w:World) (hl:RdCs w v l):
 Calls Tryz.prog 139 #[.int .i64 kind,v] w fun e w'=>e= .returned (.int .i64 (zD kind (pcs l):Nat))∧Below w.heap.size w w':=by
 obtain ⟨A,c,rfl,hm,hc⟩:=hl.slice;obtain ⟨s,hs⟩:∃s,zD kind (pcs l)=s:=⟨_,rfl⟩;rw [hs]
 by_cases h3:kind=3∧0<l.length
 ·obtain ⟨rfl,h0⟩:=h3
  have i1:(0:Int)<(l.length:Int):=by omega
  obtain ⟨A1,c1,s1,hmr⟩:=hl.run_l 1 (by omega);have s1:∀w',(Instr.slice 32 (.slice A l.length c) (some (.int .i64 1)) none none).run Tryz.prog w'= .ok (.slice A1 (l.length-1) c1) w':=fun w'=>s1 w'
  have hkeys:Hid (s=vL ((l.drop 1).map fun x=>x.c.key)):=Lib.hid (by
   rw [←hs];unfold zD xL;rw [if_pos rfl]
   simp [pcs,Function.comp_def])
  have hml0:l.length-1=(l.drop 1).length:=by simp
  rw [hml0] at s1 hmr;generalize l.drop 1=m at*;clear hml0 hs;go_enter Tryz.func139,Tryz.ntmps139;go_upto_region 3 with (fail);clear s1;have HK:Hid (s=vL (m.map fun x=>x.c.key)):=hkeys
  cases m with
  |nil=>
   have e0:s=0:=by rw [HK.out];rfl
   subst e0;clear HK hkeys;go_wp2_with fail;go_ret;exact ⟨rfl,Below.refl _ _⟩
  |cons x r=>
   obtain ⟨ad,B,b,rfl,q0,hkr⟩:=hmr.key_at (i:=0) (by simp)
   have q0:w.cell? ad=some (.slice B x.c.key.length b):=by simpa [Addr.add] using q0
   have hkr:RdB w (.slice B x.c.key.length b) x.c.key:=hkr;obtain ⟨A2,c2,s2,hr2⟩:=hmr.run_l 1 (by simp);have s2:∀w',(Instr.slice 32 (.slice (some ad) (x::r).length c1) (some (.int .i64 1)) none none).run Tryz.prog w'= .ok (.slice A2 r.length c2) w':=fun w'=>s2 w';have hr2:RdCs w (.slice A2 r.length c2) r:=hr2
   have hml:r.length+1≤9223372036854775807:=by
    obtain ⟨_,h1,h2⟩:=hmr.len;simp at h1;omega
   have hL:(x::r).length=r.length+1:=rfl;rw [hL] at s2 hmr⊢
   have e0:(((r.length:Int)+1)==0)=false:=by simp;omega
   have i0:(0:Int)<(r.length:Int)+1:=by omega
   have hkl:x.c.key.length≤9223372036854775807:=hkr.le;have HK2:Hid (s=(r.map fun x=>x.c.key).foldl (fun n y=>min n (yU x.c.key y)) x.c.key.length):=Lib.hid HK.out;clear hL hkeys HK;generalize x.c.key=t at*;go_wp2_with fail;clear s2
   go_loopw [5,28] (fun n i wr=>∃j N:Nat,i= .int .i64 (j:Int)∧n= .int .i64 (N:Int)∧j≤r.length∧Hid (N=((r.map fun x=>x.c.key).take j).foldl (fun n x=>min n (yU t x)) t.length∧N≤t.length)∧Below w.heap.size w wr)
    (fun _ i _=>r.length-(intOf i).toNat)
   case atStart=>exact ⟨0,t.length,rfl,rfl,Nat.zero_le _,Lib.hid ⟨rfl,Nat.le_refl _⟩,Below.refl _ _⟩
   case round=>
    obtain ⟨j,N,rfl,rfl,hj,HN,hB⟩:=hrel;have q1:wr.cell? ad=some (.slice B t.length b):=(hB.cell (World.block_lt_of_cell? w _ q0)).trans q0;have hkr1:=hkr.below hB (Nat.le_refl _)
    by_cases hlt:j<r.length
    ·have ij:(j:Int)<(r.length:Int):=by omega
     have HJ:Hid (((r.map fun x=>x.c.key).take (j+1)).foldl (fun n x=>min n (yU t x)) t.length=min N (yU t r[j].c.key)):=Lib.hid (by
      have hj2:j<(r.map fun x=>x.c.key).length:=by simpa using hlt
      rw [List.take_succ_eq_append_getElem hj2,List.foldl_append,←HN.out.1]
      simp)
     obtain ⟨ad2,rfl,c0,c1',c2',c3,c4⟩:=(hr2.below hB).at_ hlt;have hx:=(hr2.below hB).ok _ (List.getElem_mem hlt);generalize r[j]=y at*;obtain ⟨KA,ka,VA,va,key,ck,val,pg,ct,rfl,_,_⟩:=CV.form hx;have hyk:RdB wr (.slice KA key.length ka) key:=hx.k;simp only at HJ c0 c1' c2' c3 c4;have hcl:=(fG t key).1;have hA:Below wr.heap.size wr (wr.alloc (.cells #[.slice KA key.length ka,.int .i64 ck,.slice VA val.length va,.int .i64 pg,.int .i64 ct] 43)):=(Below.refl _ _).alloc (Nat.le_refl _) _;have hC:=OBlk.new' wr 43 [.slice KA key.length ka,.int .i64 ck,.slice VA val.length va,.int .i64 pg,.int .i64 ct];have q2:=(hA.cell (World.block_lt_of_cell? wr _ q1)).trans q1;have hkr2:=hkr1.below hA (Nat.le_refl _);have hyk2:=hyk.below hA (Nat.le_refl _);have hBA:=hB.trans (hA.mono hB.size);clear hx hyk hkr1 q1;go_upto_region 9 with (fail);clear c0 c1' c2' c3 c4;generalize wr.alloc (.cells #[.slice KA key.length ka,.int .i64 ck,.slice VA val.length va,.int .i64 pg,.int .i64 ct] 43)=w2 at*;have c0:=hC.cell' (j:=0) rfl;have hT:=sQ _ _ _ (RdL.two (w:=w2.drew) (show RdB w2.drew _ _ from hkr2) (show RdB w2.drew _ _ from hyk2) 41);rw [t5] at hT;have hT:=Lib.hid hT;generalize yU t key=cm at*;clear hC hA hkr2 hyk2
     have hmin:min (N:Int) (cm:Int)=((min N cm:Nat):Int):=by omega
     go_region_law
      (first
       |(go_simp;go_at_call 169;refine hT.out.mono ?_;rintro e w4 ⟨rfl,hw4⟩)
       |fail)
     all_goals
      have hB4:Below w.heap.size w w4:=hBA.trans ((((Below.refl w2.heap.size w2).drew).alloc (Nat.le_refl _) (.cells #[.slice B t.length b,.slice KA key.length ka] 41)).trans (hw4.mono (by simp))|>.mono hBA.size);go_wp2_with fail;go_roundw
      case rel=>
       refine ⟨j+1,min N cm,by go_num,?_,by omega,Lib.hid ⟨HJ.out.symm,by have:=HN.out.2;omega⟩,hB4⟩
       first
        |rfl
        |(rw [←hmin];rfl)
        |(congr 1;omega)
      case measure=>simp [intOf];omega
    ·obtain rfl:j=r.length:=by omega
     have ij:¬(r.length:Int)<(r.length:Int):=by omega
     have hfin:s=N:=by
      rw [HK2.out,HN.out.1,List.take_of_length_le (by simp)]
     subst hfin;go_wp2_with fail;go_ret;exact ⟨rfl,hB⟩
 ·by_cases hk:kind=3
  ·subst hk
   have h0:l= []:=by
    rcases Nat.eq_zero_or_pos l.length with e|e
    ·exact List.eq_nil_of_length_eq_zero e
    ·exact absurd ⟨rfl,e⟩ h3
   subst h0
   have e0:s=0:=by rw [←hs];rfl
   subst e0;clear hs h3;go_enter Tryz.func139,Tryz.ntmps139;go_wp2_with fail;go_ret;exact ⟨rfl,Below.refl _ _⟩
  ·have e3:(kind==3)=false:=beq_eq_false_iff_ne.2 hk
   have hkeys:Hid (s=vL (l.map fun x=>x.c.key)):=Lib.hid (by
    rw [←hs];unfold zD xL;rw [if_neg hk]
    simp [pcs,Function.comp_def])
   have hmr:=hl;clear hs hk h3;go_enter Tryz.func139,Tryz.ntmps139;go_upto_region 3 with (fail);have HK:Hid (s=vL (l.map fun x=>x.c.key)):=hkeys
   cases l with
   |nil=>
    have e0:s=0:=by rw [HK.out];rfl
    subst e0;clear HK hkeys;go_wp2_with fail;go_ret;exact ⟨rfl,Below.refl _ _⟩
   |cons x r=>
    obtain ⟨ad,B,b,rfl,q0,hkr⟩:=hmr.key_at (i:=0) (by simp)
    have q0:w.cell? ad=some (.slice B x.c.key.length b):=by simpa [Addr.add] using q0
    have hkr:RdB w (.slice B x.c.key.length b) x.c.key:=hkr;obtain ⟨A2,c2,s2,hr2⟩:=hmr.run_l 1 (by simp);have s2:∀w',(Instr.slice 32 (.slice (some ad) (x::r).length c) (some (.int .i64 1)) none none).run Tryz.prog w'= .ok (.slice A2 r.length c2) w':=fun w'=>s2 w';have hr2:RdCs w (.slice A2 r.length c2) r:=hr2
    have hml:r.length+1≤9223372036854775807:=by
     obtain ⟨_,h1,h2⟩:=hmr.len;simp at h1;omega
    have hL:(x::r).length=r.length+1:=rfl;rw [hL] at s2 hmr⊢
    have e0:(((r.length:Int)+1)==0)=false:=by simp;omega
    have i0:(0:Int)<(r.length:Int)+1:=by omega
    have hkl:x.c.key.length≤9223372036854775807:=hkr.le;have HK2:Hid (s=(r.map fun x=>x.c.key).foldl (fun n y=>min n (yU x.c.key y)) x.c.key.length):=Lib.hid HK.out;clear hL hkeys HK;generalize x.c.key=t at*;go_wp2_with fail;clear s2
    go_loopw [5,28] (fun n i wr=>∃j N:Nat,i= .int .i64 (j:Int)∧n= .int .i64 (N:Int)∧j≤r.length∧Hid (N=((r.map fun x=>x.c.key).take j).foldl (fun n x=>min n (yU t x)) t.length∧N≤t.length)∧Below w.heap.size w wr)
     (fun _ i _=>r.length-(intOf i).toNat)
    case atStart=>exact ⟨0,t.length,rfl,rfl,Nat.zero_le _,Lib.hid ⟨rfl,Nat.le_refl _⟩,Below.refl _ _⟩
    case round=>
     obtain ⟨j,N,rfl,rfl,hj,HN,hB⟩:=hrel;have q1:wr.cell? ad=some (.slice B t.length b):=(hB.cell (World.block_lt_of_cell? w _ q0)).trans q0;have hkr1:=hkr.below hB (Nat.le_refl _)
     by_cases hlt:j<r.length
     ·have ij:(j:Int)<(r.length:Int):=by omega
      have HJ:Hid (((r.map fun x=>x.c.key).take (j+1)).foldl (fun n x=>min n (yU t x)) t.length=min N (yU t r[j].c.key)):=Lib.hid (by
       have hj2:j<(r.map fun x=>x.c.key).length:=by simpa using hlt
       rw [List.take_succ_eq_append_getElem hj2,List.foldl_append,←HN.out.1]
       simp)
      obtain ⟨ad2,rfl,c0,c',c2',c3,c4⟩:=(hr2.below hB).at_ hlt;have hx:=(hr2.below hB).ok _ (List.getElem_mem hlt);generalize r[j]=y at*;obtain ⟨KA,ka,VA,va,key,ck,val,pg,ct,rfl,_,_⟩:=CV.form hx;have hyk:RdB wr (.slice KA key.length ka) key:=hx.k;simp only at HJ c0 c' c2' c3 c4;have hcl:=(fG t key).1;have hA:Below wr.heap.size wr (wr.alloc (.cells #[.slice KA key.length ka,.int .i64 ck,.slice VA val.length va,.int .i64 pg,.int .i64 ct] 43)):=(Below.refl _ _).alloc (Nat.le_refl _) _;have hC:=OBlk.new' wr 43 [.slice KA key.length ka,.int .i64 ck,.slice VA val.length va,.int .i64 pg,.int .i64 ct];have q2:=(hA.cell (World.block_lt_of_cell? wr _ q1)).trans q1;have hkr2:=hkr1.below hA (Nat.le_refl _);have hyk2:=hyk.below hA (Nat.le_refl _);have hBA:=hB.trans (hA.mono hB.size);clear hx hyk hkr1 q1;go_upto_region 9 with (fail);clear c0 c' c2' c3 c4;generalize wr.alloc (.cells #[.slice KA key.length ka,.int .i64 ck,.slice VA val.length va,.int .i64 pg,.int .i64 ct] 43)=w2 at*;have c0:=hC.cell' (j:=0) rfl;have hT:=sQ _ _ _ (RdL.two (w:=w2.drew) (show RdB w2.drew _ _ from hkr2) (show RdB w2.drew _ _ from hyk2) 41);rw [t5] at hT;have hT:=Lib.hid hT;generalize yU t key=cm at*;clear hC hA hkr2 hyk2
      have hmin:min (N:Int) (cm:Int)=((min N cm:Nat):Int):=by omega
      go_region_law
       (first
        |(go_simp;go_at_call 169;refine hT.out.mono ?_;rintro e w4 ⟨rfl,hw4⟩)
        |fail)
      all_goals
       have hB4:Below w.heap.size w w4:=hBA.trans ((((Below.refl w2.heap.size w2).drew).alloc (Nat.le_refl _) (.cells #[.slice B t.length b,.slice KA key.length ka] 41)).trans (hw4.mono (by simp))|>.mono hBA.size);go_wp2_with fail;go_roundw
       case rel=>
        refine ⟨j+1,min N cm,by go_num,?_,by omega,Lib.hid ⟨HJ.out.symm,by have:=HN.out.2;omega⟩,hB4⟩
        first
         |rfl
         |(rw [←hmin];rfl)
         |(congr 1;omega)
       case measure=>simp [intOf];omega
     ·obtain rfl:j=r.length:=by omega
      have ij:¬(r.length:Int)<(r.length:Int):=by omega
      have hfin:s=N:=by
       rw [HK2.out,HN.out.1,List.take_of_length_le (by simp)]
      subst hfin;go_wp2_with fail;go_ret;exact ⟨rfl,hB⟩
end Go.Proofs.YtfcnkpofcekmgaaGreat
namespace Go.Proofs.YtfcnkpofcekmgaaGreat
def a0K (kind:Int) (l:List PC):Nat:=6+zD kind l+2*l.length
def jS (kind:Int) (l:List PC) (k:Nat):List UInt8:=zN kind (zD kind l) 0 (l.take k)
def gM (kind:Int) (l:List PC) (k:Nat):List UInt8:=yH kind (zD kind l) (a0K kind l) 0 (l.take k)
def pR (kind:Int) (l:List PC):List UInt8:=u8I kind::2::(zI l.length 2++(zI (zD kind l) 2++xE kind l))
def qF (kind:Int) (l:List PC) (P k:Nat):List UInt8:=
 pR kind l++(gM kind l k++(List.replicate (2*(l.length-k)) 0++(jS kind l k++List.replicate (P-a0K kind l-(jS kind l k).length) 0)))
def o0 (kind:Int) (l:List PC) (P k:Nat):List UInt8:=
 pR kind l++(gM kind l (k+1)++(List.replicate (2*(l.length-(k+1))) 0++(jS kind l k++List.replicate (P-a0K kind l-(jS kind l k).length) 0)))
theorem rG {kind:Int} {l:List PC} {k:Nat} (hk:k<l.length):jS kind l (k+1)=jS kind l k++pcF kind k l[k] (zD kind l):=by
 unfold jS;rw [List.take_succ_eq_append_getElem hk,xN];simp [zN,List.length_take,Nat.min_eq_left (Nat.le_of_lt hk)]
theorem sK (kind:Int) (l:List PC):jS kind l 0= []:=by unfold jS;rfl
theorem zC2 (kind:Int) (l:List PC):jS kind l l.length=zN kind (zD kind l) 0 l:=by unfold jS;rw [List.take_length]
theorem mP {kind:Int} {l:List PC} {k:Nat} (_hk:k≤l.length):(jS kind l k).length≤(zN kind (zD kind l) 0 l).length:=by
 have e:zN kind (zD kind l) 0 l=jS kind l k++zN kind (zD kind l) (0+(l.take k).length) (l.drop k):=by
  unfold jS;rw [←xN,List.take_append_drop]
 rw [e,List.length_append];omega
theorem zDP {kind:Int} {l:List PC} {P:Nat} (h:zS kind l≤P):a0K kind l+(zN kind (zD kind l) 0 l).length+4≤P:=by
 have e:zS kind l=10+zD kind l+2*l.length+(zN kind (zD kind l) 0 l).length:=rfl;unfold a0K;omega
theorem qN {kind:Int} {l:List PC} {k:Nat} (hk:k≤l.length):(gM kind l k).length=2*k:=by
 unfold gM;rw [vA,List.length_take,Nat.min_eq_left hk]
theorem qY (kind:Int) (l:List PC):(pR kind l).length=6+zD kind l:=by
 unfold pR;simp only [List.length_cons,List.length_append,zE,yQ];omega
theorem mJ {kind:Int} {l:List PC} {P k:Nat} (h:zS kind l≤P) (hk:k≤l.length):(qF kind l P k).length=P:=by
 have h1:=zDP h;have h2:=mP (kind:=kind) hk;have e:a0K kind l=6+zD kind l+2*l.length:=rfl;unfold qF;simp only [List.length_append,qY,qN hk,List.length_replicate];omega
theorem oH {kind:Int} {l:List PC} {P k:Nat} (h:zS kind l≤P) (hk:k<l.length):(o0 kind l P k).length=P:=by
 have h1:=zDP h;have h2:=mP (kind:=kind) (Nat.le_of_lt hk);have e:a0K kind l=6+zD kind l+2*l.length:=rfl;unfold o0;simp only [List.length_append,qY,qN (show k+1≤l.length from hk),List.length_replicate];omega
theorem iP {kind:Int} {l:List PC} {k:Nat} (hk:k<l.length):gM kind l (k+1)=gM kind l k++zI (a0K kind l+(jS kind l k).length) 2:=by
 unfold gM jS;rw [List.take_succ_eq_append_getElem hk,gE];simp [yH]
theorem zAN {kind:Int} {l:List PC} {P k:Nat} (hk:k<l.length):
 splice (qF kind l P k) (6+zD kind l+2*k) (zI (a0K kind l+(jS kind l k).length) 2)=o0 kind l P k:=by
 have e1:List.replicate (2*(l.length-k)) (0:UInt8)=List.replicate 2 0++List.replicate (2*(l.length-(k+1))) 0:=by
  rw [List.replicate_append_replicate];congr 1;omega
 have e2:qF kind l P k=(pR kind l++gM kind l k)++(List.replicate 2 0++(List.replicate (2*(l.length-(k+1))) 0++(jS kind l k++List.replicate (P-a0K kind l-(jS kind l k).length) 0))):=by
  unfold qF;rw [e1];simp only [List.append_assoc]
 rw [e2,jY _ _ _ _ (6+zD kind l+2*k) (by rw [List.length_append,qY,qN (Nat.le_of_lt hk)]) (by rw [zE];rfl)];unfold o0;rw [iP hk];simp only [List.append_assoc]
theorem uZ {kind:Int} {l:List PC} {P k:Nat} (h:zS kind l≤P) (hk:k<l.length):
 splice (o0 kind l P k) (a0K kind l+(jS kind l k).length) (pcF kind k l[k] (zD kind l))=qF kind l P (k+1):=by
 have h1:=zDP h;have h2:=mP (kind:=kind) (show k+1≤l.length from hk);have h3:=rG (kind:=kind) hk;have e0:a0K kind l=6+zD kind l+2*l.length:=rfl;rw [h3,List.length_append] at h2
 have e1:List.replicate (P-a0K kind l-(jS kind l k).length) (0:UInt8)=List.replicate (pcF kind k l[k] (zD kind l)).length 0++List.replicate (P-a0K kind l-((jS kind l k).length+(pcF kind k l[k] (zD kind l)).length)) 0:=by
  rw [List.replicate_append_replicate];congr 1;omega
 have e2:o0 kind l P k=(pR kind l++(gM kind l (k+1)++(List.replicate (2*(l.length-(k+1))) 0++jS kind l k)))++(List.replicate (pcF kind k l[k] (zD kind l)).length 0++List.replicate (P-a0K kind l-((jS kind l k).length+(pcF kind k l[k] (zD kind l)).length)) 0):=by
  unfold o0;rw [e1];simp only [List.append_assoc]
 rw [e2,jY _ _ _ _ _ (by simp only [List.length_append,qY,qN (show k+1≤l.length from hk),List.length_replicate];omega) (by rw [List.length_replicate])];unfold qF;rw [h3,List.length_append];simp only [List.append_assoc]
theorem zCF {kind:Int} {l:List PC} {P:Nat} (h:zS kind l≤P):
 (qF kind l P l.length).take (P-4)=vT kind l P∧splice (qF kind l P l.length) (P-4) (zI (jQ (vT kind l P)) 4)=x9 kind l P:=by
 have h1:=zDP h;have hz:zS kind l=10+zD kind l+2*l.length+(zN kind (zD kind l) 0 l).length:=rfl;have e0:a0K kind l=6+zD kind l+2*l.length:=rfl
 have e1:List.replicate (P-a0K kind l-(zN kind (zD kind l) 0 l).length) (0:UInt8)=List.replicate (P-zS kind l) 0++List.replicate 4 0:=by
  rw [List.replicate_append_replicate];congr 1;omega
 have e:qF kind l P l.length=vT kind l P++(List.replicate 4 0++ []):=by
  unfold qF vT pR gM;rw [zC2,e1,Nat.sub_self,Nat.mul_zero,List.take_length,e0]
  simp
 constructor
 ·rw [e,List.take_left' (kW h)]
 ·rw [e,jY _ _ _ _ (P-4) (kW h) (by rw [zE];rfl)];unfold x9;simp
def zEQ (kind:Int) (P:Nat):List UInt8:=((List.replicate P (0:UInt8)).set 0 (u8I kind)).set 1 2
def zAF (kind:Int) (l:List PC) (P:Nat):List UInt8:=u8I kind::2::(zI l.length 2++List.replicate (P-4) 0)
def lV (kind:Int) (l:List PC) (P:Nat):List UInt8:=u8I kind::2::(zI l.length 2++(zI (zD kind l) 2++List.replicate (P-6) 0))
theorem aO (kind:Int) (P:Nat):(zEQ kind P).length=P:=by simp [zEQ]
theorem oZ {kind:Int} {l:List PC} {P:Nat} (h:512≤P):(zAF kind l P).length=P:=by simp [zAF,zE];omega
theorem aR {kind:Int} {l:List PC} {P:Nat} (h:512≤P):(lV kind l P).length=P:=by simp [lV,zE];omega
theorem zC3 {kind:Int} {l:List PC} {P:Nat} (h:512≤P):splice (zEQ kind P) 2 (zI l.length 2)=zAF kind l P:=by
 obtain ⟨Q,rfl⟩:∃Q,P=Q+4:=⟨P-4,by omega⟩;have e:zEQ kind (Q+4)= [u8I kind,2]++(List.replicate 2 0++List.replicate Q 0):=rfl;rw [e,jY _ _ _ _ 2 rfl (by rw [zE];rfl)];rfl
theorem zC5 {kind:Int} {l:List PC} {P:Nat} (h:512≤P):splice (zAF kind l P) 4 (zI (zD kind l) 2)=lV kind l P:=by
 have e1:List.replicate (P-4) (0:UInt8)=List.replicate 2 0++List.replicate (P-6) 0:=by
  rw [List.replicate_append_replicate];congr 1;omega
 have e:zAF kind l P=(u8I kind::2::zI l.length 2)++(List.replicate 2 0++List.replicate (P-6) 0):=by
  unfold zAF;rw [e1];simp
 rw [e,jY _ _ _ _ 4 (by simp [zE]) (by rw [zE];rfl)];unfold lV;simp
theorem t7 {kind:Int} {l:List PC} {P:Nat} (h:zS kind l≤P):splice (lV kind l P) 6 (xE kind l)=qF kind l P 0:=by
 have h1:=zDP h;have e0:a0K kind l=6+zD kind l+2*l.length:=rfl
 have e1:List.replicate (P-6) (0:UInt8)=List.replicate (zD kind l) 0++(List.replicate (2*l.length) 0++List.replicate (P-a0K kind l) 0):=by
  rw [List.replicate_append_replicate,List.replicate_append_replicate];congr 1;omega
 have e:lV kind l P=(u8I kind::2::(zI l.length 2++zI (zD kind l) 2))++(List.replicate (zD kind l) 0++(List.replicate (2*l.length) 0++List.replicate (P-a0K kind l) 0)):=by
  unfold lV;rw [e1];simp
 rw [e,jY _ _ _ _ 6 (by simp [zE]) (by rw [yQ,List.length_replicate])];unfold qF pR gM;rw [sK];simp [yH]
theorem zDT {kind:Int} {l:List PC} {P:Nat} (h:zS kind l≤P) (h0:zD kind l=0):lV kind l P=qF kind l P 0:=by
 have:=t7 h
 have e:xE kind l= []:=List.eq_nil_of_length_eq_zero (by rw [yQ,h0]);rw [e,rW] at this;exact this
theorem gD {P:Nat} (hP:P≤65536):∀{l:List PC},(∀c∈l,OkC P c)→xT l≤131105*l.length
 | [],_=>by simp [xT]
 |c::r,h=>by
  have h1:=gU (h c (by simp)) hP;have h2:=gD hP (l:=r) (fun x hx=>h x (by simp [hx]));simp only [xT,List.length_cons];omega
end Go.Proofs.YtfcnkpofcekmgaaGreat
namespace Go.Proofs.YtfcnkpofcekmgaaGreat
open Go.RowKit
theorem bU (v:Value) (l:List UInt8) (w:World) (hv:RdB w v l) (hl:l.length≤140737488355328):
 Calls Tryz.prog 167 #[v] w fun e w'=>∃v',e= .returned v'∧OwB w' w.heap.size v' l∧Below w.heap.size w w':=by
 obtain ⟨A,c,rfl,hm⟩:=hv.form;have q22:∀(w:World) (a:Option Addr) (n c n' c':Nat),(binOp .eql 41 (.slice a n c) (.slice none n' c')).run Tryz.prog w= .ok (.bool a.isNone) w:=fun w a n c n' c'=>Lib.run_eql_slice_nil w _ _ a n c n' c' Tryz.underlying41
 cases A with
 |none=>
  have:l= []:=by
   cases l with
   |nil=>rfl
   |cons x r=>obtain ⟨ad,h,_⟩:=hv.at_ (j:=0) (by simp);cases h
  subst this;go_enter Tryz.func167,Tryz.ntmps167;go_wp2_with fail;go_ret;exact ⟨_,rfl,OwB.nil _ _,Below.refl _ _⟩
 |some ad=>
  go_enter Tryz.func167,Tryz.ntmps167
  have hbase:OwB (w.alloc (.cells #[] 5)) w.heap.size (.slice (some ⟨w.heap.size,0,none⟩) 0 0) []:=by
   have:=(OBlk.new' w 5 []).owB' (base:=w.heap.size) (m:= []) (Nat.le_refl _) (by simp)
   exact this
  go_wp2_with (first
   |(at_builtin;refine yG rfl (.tmp 5) (.tmp 6) rfl w.heap.size _ [] rfl hbase _ l rfl (hv.alloc _) (by simp;omega) (by simp) ?_;intro v' w' ho hg hbk)
   |fail)
  go_ret;exact ⟨v',rfl,ho,((Below.refl w.heap.size w).alloc (Nat.le_refl _) _).grown hg (by simp) (fun k hk=>Nat.le_of_eq (Option.some.inj hk))⟩
end Go.Proofs.YtfcnkpofcekmgaaGreat
