/- Texts joined. -/
import Derived.Test.YtfcnkpofcekmgaaGreatNQ2
import Derived.Deep.CutRange
import Derived.Deep.DeepCutAuto
import Derived.Laws.Slices
import Derived.Deep.QuietTactic
import Derived.BigQuiet
import Derived.Maps.RangeWalk
import Derived.Maps.OwnSet
set_option maxRecDepth 100000
set_option maxHeartbeats 64000000
namespace Go.Proofs.YtfcnkpofcekmgaaGreat
open Go.RowKit
theorem OwB.some' {w:World} {b n:Nat} {u:Value} {l:List UInt8} (h:OwB w b u l) (hn:l.length=n) (h0:0<n):∃g c,u= .slice (some ⟨g,0,none⟩) n c:=by
 subst hn;rcases h.form with ⟨_,rfl⟩|⟨g,c,rfl,_⟩
 ·simp at h0
 ·exact ⟨g,c,rfl⟩
section laws
variable {w:World} {ops:Array Oper} {rest:List Oper} {o:Oper} {a:Act} {Q:Exit→Act→World→Prop}
end laws
structure CV where
 kv:Value
 vv:Value
 c:PC
instance :Inhabited CV:=⟨⟨.slice none 0 0,.slice none 0 0,default⟩⟩
def CV.cells (x:CV):List Value:= [x.kv,.int .i64 x.c.kind,x.vv,.int .i64 x.c.page,.int .i64 x.c.count]
def zJ (x:CV):Value:= .agg #[x.kv,.int .i64 x.c.kind,x.vv,.int .i64 x.c.page,.int .i64 x.c.count]
def yE (n:Int):Prop:= -9223372036854775808≤n∧n≤9223372036854775807
structure CV.ok (W:World) (x:CV):Prop where
 k:RdB W x.kv x.c.key
 v:RdB W x.vv x.c.val
 r1:yE x.c.kind
 r2:yE x.c.page
 r3:yE x.c.count
def zF (l:List CV):List Value:=l.flatMap CV.cells
theorem jL (l:List CV):(zF l).length=l.length*5:=by
 induction l with
 |nil=>rfl
 |cons x r ih=>
  have:zF (x::r)=x.cells++zF r:=rfl
  rw [this,List.length_append,ih,List.length_cons]
  show 5+_=_
  omega
theorem vK (a b:List CV):zF (a++b)=zF a++zF b:=by simp [zF]
theorem vN:∀(l:List CV) (i r:Nat) (hi:i<l.length),r<5→(zF l)[i*5+r]? =l[i].cells[r]?
 |x::s,0,r,_,hr=>by
  have:zF (x::s)=x.cells++zF s:=rfl
  rw [this,List.getElem?_append_left (by show _<5;omega)]
  simp
 |x::s,i+1,r,hi,hr=>by
  have:zF (x::s)=x.cells++zF s:=rfl
  rw [this,List.getElem?_append_right (by show 5≤_;omega)]
  have:=vN s i r (by simpa using hi) hr
  rw [show (i+1)*5+r-x.cells.length=i*5+r by show _-5=_;omega,this];rfl
structure RdCs (W:World) (v:Value) (l:List CV):Prop where
 form:Rd W 5 v l.length (zF l)
 ok:∀x∈l,x.ok W
def pcs (l:List CV):List PC:=l.map CV.c
theorem zA (l:List CV):(pcs l).length=l.length:=by simp [pcs]
theorem CV.ok.below {w w':World} {x:CV} (h:x.ok w) (hb:Below w.heap.size w w'):x.ok w':={h with k:=h.k.below hb (Nat.le_refl _),v:=h.v.below hb (Nat.le_refl _)}
theorem RdCs.below {w w':World} {v:Value} {l:List CV} (h:RdCs w v l) (hb:Below w.heap.size w w'):RdCs w' v l:=
 ⟨h.form.below hb (Nat.le_refl _),fun x hx=>(h.ok x hx).below hb⟩
theorem RdCs.slice {w:World} {v:Value} {l:List CV} (h:RdCs w v l):∃A c,v= .slice A l.length c∧l.length≤c∧c≤9223372036854775807:=by
 obtain ⟨_,A,c,hv,h1,h2,_⟩:=h.form;exact ⟨A,c,hv,h1,h2⟩
theorem RdCs.at_ {w:World} {A:Option Addr} {m c i:Nat} {l:List CV} (h:RdCs w (.slice A m c) l) (hi:i<l.length):
 ∃ad,A=some ad∧w.cell? (ad.add (i*5))=some l[i].kv∧w.cell? ⟨(ad.add (i*5)).block,(ad.add (i*5)).off+1,none⟩=some (.int .i64 l[i].c.kind)∧w.cell? ⟨(ad.add (i*5)).block,(ad.add (i*5)).off+2,none⟩=some l[i].vv∧
  w.cell? ⟨(ad.add (i*5)).block,(ad.add (i*5)).off+3,none⟩=some (.int .i64 l[i].c.page)∧w.cell? ⟨(ad.add (i*5)).block,(ad.add (i*5)).off+4,none⟩=some (.int .i64 l[i].c.count):=by
 obtain ⟨_,A',c',hv,_,_,h3⟩:=h.form;injection hv with hA;subst hA;have key:∀r u,r<5→l[i].cells[r]? =some u→∃ad,A=some ad∧w.cell? (ad.add (i*5+r))=some u:=fun r u hr hu=>h3 (i*5+r) u (by rw [vN l i r hi hr];exact hu);obtain ⟨ad,rfl,e0⟩:=key 0 _ (by omega) rfl;obtain ⟨_,he,e1⟩:=key 1 _ (by omega) rfl
 cases he
 obtain ⟨_,he,e2⟩:=key 2 _ (by omega) rfl
 cases he
 obtain ⟨_,he,e3⟩:=key 3 _ (by omega) rfl
 cases he
 obtain ⟨_,he,e4⟩:=key 4 _ (by omega) rfl
 cases he
 refine ⟨ad,rfl,e0,?_,?_,?_,?_⟩
 ·have:=e1;rw [←jW] at this;exact this
 ·have:=e2;rw [←jW] at this;exact this
 ·have:=e3;rw [←jW] at this;exact this
 ·have:=e4;rw [←jW] at this;exact this
theorem zC {w:World} {g:Nat} {T:TypeId} {a0 a1 a2 a3 a4:Value} (h:OBlk w g T [a0,a1,a2,a3,a4]):
 w.cell? ⟨g,0,none⟩=some a0∧w.cell? ⟨g,1,none⟩=some a1∧w.cell? ⟨g,2,none⟩=some a2∧w.cell? ⟨g,3,none⟩=some a3∧w.cell? ⟨g,4,none⟩=some a4:=
 ⟨h.cell 0,h.cell 1,h.cell 2,h.cell 3,h.cell 4⟩
structure OwCs (w:World) (base:Nat) (v:Value) (l:List CV):Prop where
 own:Own w base 43 5 v l.length (zF l)
 each:∀x∈l,OwB w base x.kv x.c.key∧OwB w base x.vv x.c.val
 rng:∀x∈l,yE x.c.kind∧yE x.c.page∧yE x.c.count
 apart:((l.flatMap fun x=> [x.kv.ownBlock,x.vv.ownBlock]).filterMap id).Pairwise (· < ·)
theorem zK {B:Nat} {w w':World} (h:Below B w w'):∀n,Below B w (w'.drewN n)
 |0=>h
 |n+1=>(zK h n).drew
theorem CV.form {x:CV} {w:World} (h:x.ok w):∃A a B b key ck val pg ct,x=⟨.slice A key.length a,.slice B val.length b,⟨key,ck,val,pg,ct⟩⟩∧key.length≤9223372036854775807∧val.length≤9223372036854775807:=by
 obtain ⟨kv,vv,key,ck,val,pg,ct⟩:=x;obtain ⟨A,ca,hkv,hka⟩:=h.k.form;obtain ⟨B,cb,hvv,hvb⟩:=h.v.form;simp only at hkv hvv hka hvb;subst hkv hvv;exact ⟨A,ca,B,cb,key,ck,val,pg,ct,rfl,hka,hvb⟩
theorem zV {l:List CV} {i:Nat} (hi:i<l.length):(pcs l)[i]'(by rw [zA];exact hi)=l[i].c:=by simp [pcs]
theorem Rd.five (w:World) (a b c d e:Value) (T:TypeId):Rd (w.alloc (.cells #[a,b,c,d,e] T)) 5 (.slice (some ⟨w.heap.size,0,none⟩) 1 1) 1 [a,b,c,d,e]:=
 ⟨by simp,_,_,rfl,Nat.le_refl _,by simp [maxLen],fun j u hj=>⟨_,rfl,by rw [vH,(OBlk.new w T #[a,b,c,d,e]).cell];simpa using hj⟩⟩
theorem vP:(Tryz.prog.info? 43).map (fun i=>(i.zero,i.size,i.bytes))=some (some (.agg #[.slice none 0 0,.int .i64 0,.slice none 0 0,.int .i64 0,.int .i64 0]),5,72):=by kernel_rfl
theorem qV (x:CV) (w:World) (hx:x.ok w) (hl:x.c.key.length+x.c.val.length≤9223372036854775000):Calls Tryz.prog 128 #[zJ x] w fun e w'=>e= .returned (.int .i64 (z9 x.c:Nat))∧Below w.heap.size w w':=by
 obtain ⟨kv,vv,key,kind,val,pg,ct⟩:=x;obtain ⟨A,ca,hkv,hka⟩:=hx.k.form;obtain ⟨B,cb,hvv,hvb⟩:=hx.v.form;simp only at hkv hvv hka hvb hl;subst hkv hvv;have hA:Below w.heap.size w (w.alloc (.cells #[.slice A key.length ca,.int .i64 kind,.slice B val.length cb,.int .i64 pg,.int .i64 ct] 43)):=(Below.refl _ _).alloc (Nat.le_refl _) _;obtain ⟨c0,c1,c2,c3,c4⟩:=zC (OBlk.new' w 43 [.slice A key.length ca,.int .i64 kind,.slice B val.length cb,.int .i64 pg,.int .i64 ct])
 by_cases h1:kind=1
 ·subst h1;unfold zJ;go_enter Tryz.func128,Tryz.ntmps128;go_wp2_with fail;go_ret;exact ⟨by unfold z9;rw [if_pos rfl];go_num,hA⟩
 ·have hb:(kind==1)=false:=beq_eq_false_iff_ne.2 h1
  have HL:Hid (z9 ⟨key,kind,val,pg,ct⟩=11+key.length):=by show _=_;unfold z9;rw [if_neg h1]
  clear h1;unfold zJ;go_enter Tryz.func128,Tryz.ntmps128;go_wp2_with fail;go_ret;exact ⟨by rw [HL.out];go_num,hA⟩
theorem zBF (x:CV) (kind:Int) (P:Nat) (hP:P≤65536) (w:World) (hx:x.ok w):Calls Tryz.prog 129 #[.int .i64 kind,.int .i64 (P:Int),zJ x] w fun e w'=>e= .returned (.bool (zQ kind P x.c))∧Below w.heap.size w w':=by
 obtain ⟨kv,vv,key,ck,val,pg,ct⟩:=x;obtain ⟨A,ca,hkv,hka⟩:=hx.k.form;obtain ⟨B,cb,hvv,hvb⟩:=hx.v.form;simp only at hkv hvv hka hvb;subst hkv hvv;have hA:Below w.heap.size w (w.alloc (.cells #[.slice A key.length ca,.int .i64 ck,.slice B val.length cb,.int .i64 pg,.int .i64 ct] 43)):=(Below.refl _ _).alloc (Nat.le_refl _) _;obtain ⟨c0,c1,c2,c3,c4⟩:=zC (OBlk.new' w 43 [.slice A key.length ca,.int .i64 ck,.slice B val.length cb,.int .i64 pg,.int .i64 ct]);unfold zJ;go_enter Tryz.func129,Tryz.ntmps129;go_upto_region 1 with (fail)
 go_cut [7,8] (fun a b wx=>a= .bool (decide (z8 ⟨key,ck,val,pg,ct⟩))∧b= .bool (decide (yC ⟨key,ck,val,pg,ct⟩))∧∃m,wx=(w.alloc (.cells #[.slice A key.length ca,.int .i64 ck,.slice B val.length cb,.int .i64 pg,.int .i64 ct] 43)).drewN m)
 case first=>
  have HCH:Hid (decide (z8 ⟨key,ck,val,pg,ct⟩)=(decide (2≤pg)&&decide (pg<65536))):=by
   show _=_
   rw [Bool.eq_iff_iff,Bool.and_eq_true,decide_eq_true_iff,decide_eq_true_iff,decide_eq_true_iff];exact Iff.rfl
  have HTH:Hid (decide (yC ⟨key,ck,val,pg,ct⟩)=((pg==0)&&(ct==0))):=by
   show _=_
   rw [Bool.eq_iff_iff,Bool.and_eq_true,decide_eq_true_iff,beq_iff_eq,beq_iff_eq];exact Iff.rfl
  by_cases a1:2≤pg
  ·have e1:(pg==0)=false:=beq_eq_false_iff_ne.2 (by omega)
   by_cases a2:pg<65536
   ·go_region
    go_wp2_with fail;go_meet;exact ⟨by rw [HCH.out];simp [a1,a2],by rw [HTH.out];simp [e1],1,rfl⟩
   ·go_region
    go_wp2_with fail;go_meet;exact ⟨by rw [HCH.out,decide_eq_false (show ¬pg<65536 by omega),Bool.and_false],by rw [HTH.out];simp [e1],1,rfl⟩
  ·by_cases a3:pg=0
   ·subst a3;rcases Bool.eq_false_or_eq_true (ct==0) with a4|a4
    ·go_region
     go_wp2_with fail;go_meet;exact ⟨by rw [HCH.out];simp,by rw [HTH.out];simp [a4],1,rfl⟩
    ·go_region
     go_wp2_with fail;go_meet;exact ⟨by rw [HCH.out];simp,by rw [HTH.out];simp [a4],1,rfl⟩
   ·have e1:(pg==0)=false:=beq_eq_false_iff_ne.2 a3;clear a3
    go_region
    go_wp2_with fail;go_meet;exact ⟨by rw [HCH.out,decide_eq_false (show ¬2≤pg by omega),Bool.false_and],by rw [HTH.out];simp [e1],1,rfl⟩
 case rest=>
  obtain ⟨rfl,rfl,m,rfl⟩:=hcut
  have HM:∀bd:Bool,bd=decide (P/8<key.length∨(kind=2∧key.length=0)∨(ck≠1∧0<val.length))→Hid (zQ kind P ⟨key,ck,val,pg,ct⟩=bif bd then false
   else if kind=3 then (ck==3)&&(decide (z8 ⟨key,ck,val,pg,ct⟩)&&(decide (1≤ct)&&decide (ct≤1073741824)))
   else if ck=1 then decide (yC ⟨key,ck,val,pg,ct⟩)&&decide (val.length≤P/16*3)
   else if ck=2 then decide (z8 ⟨key,ck,val,pg,ct⟩)&&(decide ((P:Int)/16*3<ct)&&decide (ct≤65536))
   else if ck=4 then decide (yC ⟨key,ck,val,pg,ct⟩)||(decide (z8 ⟨key,ck,val,pg,ct⟩)&&(decide (1≤ct)&&decide (ct≤1073741824)))
   else false):=by
   intro bd hbd
   show _=_
   unfold zQ
   by_cases hc:P/8<key.length∨(kind=2∧key.length=0)∨(ck≠1∧0<val.length)
   ·rw [if_pos hc,hbd,decide_eq_true hc];rfl
   ·rw [if_neg hc,hbd,decide_eq_false hc];simp only [Bool.cond_false,Bool.decide_and,Bool.decide_or];rfl
  go_upto_region 2 with (fail)
  go_cut [51] (fun s wx=>s= .bool (decide (P/8<key.length∨(kind=2∧key.length=0)∨(ck≠1∧0<val.length)))∧∃m,wx=(w.alloc (.cells #[.slice A key.length ca,.int .i64 ck,.slice B val.length cb,.int .i64 pg,.int .i64 ct] 43)).drewN m)
  case first=>
   clear HM;generalize decide (z8 ⟨key,ck,val,pg,ct⟩)=ch at*;generalize decide (yC ⟨key,ck,val,pg,ct⟩)=th at*
   by_cases b1:P/8<key.length
   ·have b1i:(P:Int)/8<(key.length:Int):=by omega
    go_wp2_with fail;go_meet;refine ⟨?_,m,?_⟩
    ·first|(simp [b1];done)|(simp [b1,b1i];omega)
    ·rfl
   ·have b1i:¬((P:Int)/8<(key.length:Int)):=by omega
    by_cases q2:kind=2
    ·subst q2;rcases Bool.eq_false_or_eq_true (((key.length:Nat):Int)==0) with z0|z0
     ·skip
      go_wp2_with fail;go_meet;refine ⟨?_,m,?_⟩
      ·first|(simp [(show key= [] by simpa using z0)];done)|(simp [b1,b1i,z0,(show key= [] by simpa using z0)];omega)
      ·rfl
     ·have z1:¬key= []:=by simpa using z0
      by_cases k1:ck=1
      ·subst k1;go_wp2_with fail;go_meet;refine ⟨?_,m,?_⟩
       ·first|(simp [b1,z1];done)|(simp [b1,b1i,z0,z1];omega)
       ·rfl
      ·have k1b:(ck==1)=false:=beq_eq_false_iff_ne.2 k1
       have k1c:(ck !=1)=true:=by rw [bne,k1b];rfl
       by_cases v0:0<val.length
       ·have v0i:(0:Int)<(val.length:Int):=by omega
        go_wp2_with fail;go_meet;refine ⟨?_,m,?_⟩
        ·first|(simp [b1,z1,k1,v0];done)|(simp [b1,b1i,z0,z1,k1,k1b,v0,v0i];omega)
        ·rfl
       ·have v0i:¬((0:Int)<(val.length:Int)):=by omega
        go_wp2_with fail;go_meet;refine ⟨?_,m,?_⟩
        ·first|(simp [b1,z1,k1,v0];done)|(simp [b1,b1i,z0,z1,k1,k1b,v0,v0i];omega)
        ·rfl
    ·have q2b:(kind==2)=false:=beq_eq_false_iff_ne.2 q2
     have q2c:(kind !=2)=true:=by rw [bne,q2b];rfl
     by_cases k1:ck=1
     ·subst k1;go_wp2_with fail;go_meet;refine ⟨?_,m,?_⟩
      ·first|(simp [b1,q2];done)|(simp [b1,b1i,q2,q2b];omega)
      ·rfl
     ·have k1b:(ck==1)=false:=beq_eq_false_iff_ne.2 k1
      have k1c:(ck !=1)=true:=by rw [bne,k1b];rfl
      by_cases v0:0<val.length
      ·have v0i:(0:Int)<(val.length:Int):=by omega
       go_wp2_with fail;go_meet;refine ⟨?_,m,?_⟩
       ·first|(simp [b1,q2,k1,v0];done)|(simp [b1,b1i,q2,q2b,k1,k1b,v0,v0i];omega)
       ·rfl
      ·have v0i:¬((0:Int)<(val.length:Int)):=by omega
       go_wp2_with fail;go_meet;refine ⟨?_,m,?_⟩
       ·first|(simp [b1,q2,k1,v0];done)|(simp [b1,b1i,q2,q2b,k1,k1b,v0,v0i];omega)
       ·rfl
  case rest=>
   obtain ⟨rfl,m,rfl⟩:=hcut;have HM:=HM _ rfl;generalize decide (P/8<key.length∨(kind=2∧key.length=0)∨(ck≠1∧0<val.length))=bd at*;generalize decide (z8 ⟨key,ck,val,pg,ct⟩)=ch at*;generalize decide (yC ⟨key,ck,val,pg,ct⟩)=th at*
   cases bd with
   |true=>
    go_wp2_with fail;go_ret;refine ⟨?_,zK hA m⟩;rw [HM.out]
    first|(simp [];done)|(simp [];omega)
   |false=>
    by_cases q3:kind=3
    ·subst q3
     by_cases k3:ck=3
     ·subst k3
      cases ch with
      |true=>
       by_cases d1:1≤ct
       ·skip
        by_cases d2:ct≤1073741824
        ·skip
         go_wp2_with fail;go_ret;refine ⟨?_,zK hA m⟩;rw [HM.out]
         first|(simp [d1,d2];done)|(simp [d1,d2];omega)
        ·skip
         go_wp2_with fail;go_ret;refine ⟨?_,zK hA m⟩;rw [HM.out]
         first|(simp [d1,d2];done)|(simp [d1,d2];omega)
       ·skip
        go_wp2_with fail;go_ret;refine ⟨?_,zK hA m⟩;rw [HM.out]
        first|(simp [];done)|(simp [];omega)
      |false=>
       go_wp2_with fail;go_ret;refine ⟨?_,zK hA m⟩;rw [HM.out]
       first|(simp [];done)|(simp [];omega)
     ·have k3b:(ck==3)=false:=beq_eq_false_iff_ne.2 k3
      have k3c:(ck !=3)=true:=by rw [bne,k3b];rfl
      go_wp2_with fail;go_ret;refine ⟨?_,zK hA m⟩;rw [HM.out]
      first|(simp [k3b];done)|(simp [k3,k3b];omega)
    ·have q3b:(kind==3)=false:=beq_eq_false_iff_ne.2 q3
     have q3c:(kind !=3)=true:=by rw [bne,q3b];rfl
     by_cases k1:ck=1
     ·subst k1
      cases th with
      |true=>
       by_cases v2:val.length≤P/16*3
       ·have v2i:(val.length:Int)≤(P:Int)/16*3:=by omega
        go_wp2_with fail;go_ret;refine ⟨?_,zK hA m⟩;rw [HM.out]
        first|(simp [q3,v2];done)|(simp [q3,q3b,v2,v2i];omega)
       ·have v2i:¬((val.length:Int)≤(P:Int)/16*3):=by omega
        go_wp2_with fail;go_ret;refine ⟨?_,zK hA m⟩;rw [HM.out]
        first|(simp [q3,v2];done)|(simp [q3,q3b,v2,v2i];omega)
      |false=>
       go_wp2_with fail;go_ret;refine ⟨?_,zK hA m⟩;rw [HM.out]
       first|(simp [q3];done)|(simp [q3,q3b];omega)
     ·have k1b:(ck==1)=false:=beq_eq_false_iff_ne.2 k1
      have k1c:(ck !=1)=true:=by rw [bne,k1b];rfl
      by_cases k2:ck=2
      ·subst k2
       cases ch with
       |true=>
        by_cases d3:(P:Int)/16*3<ct
        ·skip
         by_cases d4:ct≤65536
         ·skip
          go_wp2_with fail;go_ret;refine ⟨?_,zK hA m⟩;rw [HM.out]
          first|(simp [q3,k1,d3,d4];done)|(simp [q3,q3b,k1,k1b,d3,d4];omega)
         ·skip
          go_wp2_with fail;go_ret;refine ⟨?_,zK hA m⟩;rw [HM.out]
          first|(simp [q3,k1,d3,d4];done)|(simp [q3,q3b,k1,k1b,d3,d4];omega)
        ·skip
         go_wp2_with fail;go_ret;refine ⟨?_,zK hA m⟩;rw [HM.out]
         first|(simp [q3,k1];done)|(simp [q3,k1];omega)
       |false=>
        go_wp2_with fail;go_ret;refine ⟨?_,zK hA m⟩;rw [HM.out]
        first|(simp [q3,k1];done)|(simp [q3,q3b,k1,k1b];omega)
      ·have k2b:(ck==2)=false:=beq_eq_false_iff_ne.2 k2
       have k2c:(ck !=2)=true:=by rw [bne,k2b];rfl
       by_cases k4:ck=4
       ·subst k4
        cases th with
        |true=>
         go_wp2_with fail;go_ret;refine ⟨?_,zK hA m⟩;rw [HM.out]
         first|(simp [q3,k1,k2];done)|(simp [q3,q3b,k1,k1b,k2,k2b];omega)
        |false=>
         cases ch with
         |true=>
          by_cases d1:1≤ct
          ·skip
           by_cases d2:ct≤1073741824
           ·skip
            go_wp2_with fail;go_ret;refine ⟨?_,zK hA m⟩;rw [HM.out]
            first|(simp [q3,k1,k2,d1,d2];done)|(simp [q3,q3b,k1,k1b,k2,k2b,d1,d2];omega)
           ·skip
            go_wp2_with fail;go_ret;refine ⟨?_,zK hA m⟩;rw [HM.out]
            first|(simp [q3,k1,k2,d1,d2];done)|(simp [q3,q3b,k1,k1b,k2,k2b,d1,d2];omega)
          ·skip
           go_wp2_with fail;go_ret;refine ⟨?_,zK hA m⟩;rw [HM.out]
           first|(simp [q3,k1,k2];done)|(simp [q3,k1,k2];omega)
         |false=>
          go_wp2_with fail;go_ret;refine ⟨?_,zK hA m⟩;rw [HM.out]
          first|(simp [q3,k1,k2];done)|(simp [q3,q3b,k1,k1b,k2,k2b];omega)
       ·have k4b:(ck==4)=false:=beq_eq_false_iff_ne.2 k4
        have k4c:(ck !=4)=true:=by rw [bne,k4b];rfl
        go_wp2_with fail;go_ret;refine ⟨?_,zK hA m⟩;rw [HM.out]
        first|(simp [q3,k1,k2,k4];done)|(simp [q3,q3b,k1,k1b,k2,k2b,k4,k4b];omega)
def nC (p:Int):Prop:=p=512∨p=1024∨p=2048∨p=4096∨p=8192∨p=16384∨p=32768∨p=65536
instance (p:Int):Decidable (nC p):=by unfold nC;infer_instance
def zT (p:Int):Bool:=decide (nC p)
theorem qS (k p:Nat) (h1:2^k≤p) (h2:p<2^(k+1)):p&&&(p-1)=0↔p=2^k:=by
 constructor
 ·intro h;rcases Nat.lt_or_ge (2^k) p with hlt|hge
  ·have h3:p.testBit k=true:=by
    have:=Nat.testBit_two_pow_add_eq (p-2^k) k
    rw [show 2^k+(p-2^k)=p by omega] at this;rw [this,Nat.testBit_lt_two_pow (by rw [Nat.pow_succ] at h2;omega)];rfl
   have h4:(p-1).testBit k=true:=by
    have:=Nat.testBit_two_pow_add_eq (p-1-2^k) k
    rw [show 2^k+(p-1-2^k)=p-1 by omega] at this;rw [this,Nat.testBit_lt_two_pow (by rw [Nat.pow_succ] at h2;omega)];rfl
   have h5:=congrArg (fun x=>Nat.testBit x k) h;simp [Nat.testBit_and,h3,h4] at h5
  ·omega
 ·rintro rfl;apply Nat.eq_of_testBit_eq;intro i;rw [Nat.testBit_and,Nat.testBit_two_pow,Nat.testBit_two_pow_sub_one]
  by_cases h:k=i
  ·subst h;simp
  ·simp [h]
theorem iV (a b:Nat) (ha:a<9223372036854775808) (hb:b<9223372036854775808):bits .and .i64 (a:Int) (b:Int)=((a&&&b:Nat):Int):=by
 have oi:∀a:Nat,a<9223372036854775808→(BitVec.ofInt 64 (a:Int)).toNat=a:=fun a ha=>by
  rw [BitVec.ofInt_natCast,BitVec.toNat_ofNat];exact Nat.mod_eq_of_lt (by omega)
 have hx:a&&&b<2^63:=Nat.and_lt_two_pow _ (by omega)
 show IntKind.i64.wrap ((BitVec.ofInt 64 (a:Int)&&&BitVec.ofInt 64 (b:Int)).toNat:Int)=_
 rw [BitVec.toNat_and,oi a ha,oi b hb,IntKind.wrap_i64];omega
theorem zEM (p:Int) (h1:512≤p) (h2:p≤65536):(bits .and .i64 p (p-1) !=0)= !zT p:=by
 obtain ⟨n,rfl⟩:=Int.eq_ofNat_of_zero_le (show 0≤p by omega)
 have e:((n:Int)-1)=((n-1:Nat):Int):=by omega
 rw [e,iV n (n-1) (by omega) (by omega)]
 have key:n&&&(n-1)=0↔nC n:=by
  unfold nC;rcases Nat.lt_or_ge n 1024 with h|h
  ·rw [qS 9 n (by omega) (by omega)];omega
  rcases Nat.lt_or_ge n 2048 with h|h
  ·rw [qS 10 n (by omega) (by omega)];omega
  rcases Nat.lt_or_ge n 4096 with h|h
  ·rw [qS 11 n (by omega) (by omega)];omega
  rcases Nat.lt_or_ge n 8192 with h|h
  ·rw [qS 12 n (by omega) (by omega)];omega
  rcases Nat.lt_or_ge n 16384 with h|h
  ·rw [qS 13 n (by omega) (by omega)];omega
  rcases Nat.lt_or_ge n 32768 with h|h
  ·rw [qS 14 n (by omega) (by omega)];omega
  rcases Nat.lt_or_ge n 65536 with h|h
  ·rw [qS 15 n (by omega) (by omega)];omega
  ·rw [qS 16 n (by omega) (by omega)];omega
 unfold zT
 by_cases h:nC n
 ·rw [key.2 h];simp [h]
 ·have:n&&&(n-1)≠0:=fun h'=>h (key.1 h')
  simp only [h,decide_false,Bool.not_false,bne_iff_ne];omega
theorem zZ {p:Int} (h:zT p=true):512≤p∧p≤65536:=by
 have:=of_decide_eq_true h
 unfold nC at this;omega
theorem uY (p:Int) (h1:512≤p) (h2:p≤65536):(bits .and .i64 p (p-1)==0)=zT p:=by
 have h:=zEM p h1 h2;have e:(bits .and .i64 p (p-1) !=0)= !(bits .and .i64 p (p-1)==0):=rfl;rw [e] at h
 simpa using h
theorem qI {p:Int} (h:p<512∨65536<p):zT p=false:=by
 cases e:zT p
 ·rfl
 ·have:=zZ e
  omega
theorem p9:Tryz.prog.underlying 41=some (.slice (Tryz.prog.elem 41)):=by kernel_rfl
theorem dB (w:World):(sizeOf (Tryz.prog.elem 41)).run Tryz.prog w= .ok 1 w:=by
 have he:Tryz.prog.elem 41=5:=by kernel_rfl
 rw [he];obtain ⟨i,hi,hz0,hz1,hz2⟩:=info_parts b8;simp [sizeOf,typeInfo,hi,hz1]
theorem RdB.cap {w:World} {A:Option Addr} {n c:Nat} {l:List UInt8} (h:RdB w (.slice A n c) l):n=l.length∧l.length≤c∧c≤9223372036854775807:=by
 obtain ⟨A',c',hv,h1,h2,_⟩:=h;injection hv with _ hn hc;subst hc;simp only [maxLen] at h2;exact ⟨hn,h1,h2⟩
theorem RdB.run_lh {w:World} {A:Option Addr} {n c:Nat} {l:List UInt8} (h:RdB w (.slice A n c) l) (lo hi:Nat) (h1:lo≤hi) (h2:hi≤l.length):
 ∃A' c',(∀w',(Instr.slice 41 (.slice A n c) (some (.int .i64 (lo:Int))) (some (.int .i64 (hi:Int))) none).run Tryz.prog w'= .ok (.slice A' (hi-lo) c') w')∧RdB w (.slice A' (hi-lo) c') ((l.take hi).drop lo):=by
 obtain ⟨_,hc,_⟩:=h.cap;refine ⟨_,_,fun w'=> ?_,h.cut h1 h2⟩
 have:=run_slice_lh (P:=Tryz.prog) w' 41 A n c p9 .i64 .i64 lo hi (by omega) (by omega) (by omega)
 rw [this,dB];simp [Result.andThen,sliced]
theorem RdB.run_l {w:World} {A:Option Addr} {n c:Nat} {l:List UInt8} (h:RdB w (.slice A n c) l) (lo:Nat) (h1:lo≤l.length):
 ∃A' c',(∀w',(Instr.slice 41 (.slice A n c) (some (.int .i64 (lo:Int))) none none).run Tryz.prog w'= .ok (.slice A' (l.length-lo) c') w')∧RdB w (.slice A' (l.length-lo) c') (l.drop lo):=by
 obtain ⟨rfl,hc,_⟩:=h.cap;have hr:=h.cut h1 (Nat.le_refl _);rw [List.take_length] at hr;refine ⟨_,_,fun w'=> ?_,hr⟩
 have:=run_slice_l (P:=Tryz.prog) w' 41 A l.length c p9 .i64 lo (by omega) (by omega)
 rw [this,dB];simp [Result.andThen,sliced]
theorem RdB.run_h {w:World} {A:Option Addr} {n c:Nat} {l:List UInt8} (h:RdB w (.slice A n c) l) (hi:Nat) (h2:hi≤l.length):
 ∃A' c',(∀w',(Instr.slice 41 (.slice A n c) none (some (.int .i64 (hi:Int))) none).run Tryz.prog w'= .ok (.slice A' hi c') w')∧RdB w (.slice A' hi c') (l.take hi):=by
 obtain ⟨_,hc,_⟩:=h.cap;have hr:=h.cut (Nat.zero_le hi) h2;rw [List.drop_zero,Nat.sub_zero] at hr;refine ⟨_,_,fun w'=> ?_,hr⟩
 have:=run_slice_h (P:=Tryz.prog) w' 41 A n c p9 .i64 hi (by omega) (by omega)
 rw [this,dB];simp [Result.andThen,sliced]
theorem bW (p:Int) (hp: -9223372036854775808≤p∧p≤9223372036854775807) (w:World):Calls Tryz.prog 127 #[.int .i64 p] w fun e w'=>e= .returned (.bool (zT p))∧w=w':=by
 by_cases h1:p<512
 ·have HV:=Lib.hid (qI (.inl h1));go_enter Tryz.func127,Tryz.ntmps127;go_wp2_with fail;go_ret;rw [HV.out];exact ⟨rfl,rfl⟩
 by_cases h2:65536<p
 ·have HV:=Lib.hid (qI (.inr h2));go_enter Tryz.func127,Tryz.ntmps127;go_wp2_with fail;go_ret;rw [HV.out];exact ⟨rfl,rfl⟩
 have hq:=uY p (by omega) (by omega);go_enter Tryz.func127,Tryz.ntmps127;go_wp2_with fail;go_ret;exact ⟨rfl,rfl⟩
theorem bX (k:Int) (w:World):Calls Tryz.prog 126 #[.int .i64 k] w fun e w'=>e= .returned (.bool (zO k))∧w=w':=by
 by_cases h1:k=2
 ·subst h1;go_enter Tryz.func126,Tryz.ntmps126;go_wp2_with fail;go_ret;exact ⟨rfl,rfl⟩
 ·have e1:(k==2)=false:=beq_eq_false_iff_ne.2 h1
  by_cases h2:k=3
  ·subst h2;go_enter Tryz.func126,Tryz.ntmps126;go_wp2_with fail;go_ret;exact ⟨rfl,rfl⟩
  ·have e2:(k==3)=false:=beq_eq_false_iff_ne.2 h2
   have HK:Hid (zO k=false):=by show _=_;unfold zO;exact decide_eq_false (by omega)
   clear h1 h2;go_enter Tryz.func126,Tryz.ntmps126;go_wp2_with fail;go_ret;rw [HK.out];exact ⟨rfl,rfl⟩
theorem wM {l:List PC} {c:PC} (h:c∈l):2+z9 c≤zW l:=by
 induction l with
 |nil=>cases h
 |cons x r ih=>
  simp only [zW];rcases List.mem_cons.1 h with rfl|h
  ·omega
  ·have:=ih h;omega
theorem s7 (l:List PC) {i:Nat} (hi:i<l.length):zW (l.take (i+1))=zW (l.take i)+(2+z9 l[i]):=by
 rw [List.take_succ_eq_append_getElem hi,mT];simp only [zW];omega
theorem cC (l:List PC) (i:Nat):zW (l.take i)≤zW l:=by
 have:zW l=zW (l.take i)+(zW (l.drop i)-8):=by rw [←mT,List.take_append_drop]
 omega
def Fit (l:List PC):Prop:=zW l≤4611686018427387904∧∀c∈l,c.key.length+c.val.length≤4611686018427387904
theorem aB (kind:Int) (v:Value) (l:List CV) (w:World) (hl:RdCs w v l) (hf:Fit (pcs l)):
 Calls Tryz.prog 73 #[.int .i64 kind,v] w fun e w'=>e= .returned (.int .i64 (zW (pcs l):Nat))∧Below w.heap.size w w':=by
 obtain ⟨A,c,rfl,hm,hc⟩:=hl.slice;obtain ⟨hf1,hf2⟩:=hf;have HF2:=Lib.hid hf2;clear hf2;go_enter Tryz.func73,Tryz.ntmps73;go_wp2_with fail
 go_loopw [5,10] (fun n i wr=>∃k:Nat,k≤l.length∧i= .int .i64 (k:Int)∧n= .int .i64 (zW ((pcs l).take k):Nat)∧Below w.heap.size w wr) (fun _ i _=>l.length-(intOf i).toNat)
 case atStart=>exact ⟨0,Nat.zero_le _,rfl,rfl,Below.refl _ _⟩
 case round=>
  obtain ⟨k,hk,rfl,rfl,hB⟩:=hrel
  by_cases hlt:k<l.length
  ·have ik:(k:Int)<(l.length:Int):=by omega
   have hS:=s7 (pcs l) (i:=k) (by rw [zA];exact hlt);have hS1:=cC (pcs l) (k+1);rw [zV hlt] at hS
   have hmem:l[k].c∈pcs l:=by rw [←zV hlt];exact List.getElem_mem _
   have hkv:=HF2.out _ hmem;obtain ⟨ad,rfl,c0,c1,c2,c3,c4⟩:=(hl.below hB).at_ hlt;have hx:=(hl.below hB).ok _ (List.getElem_mem hlt);generalize l[k]=x at*;obtain ⟨A1,a1,B1,b1,key,ck,val,pg,ct,rfl,_,_⟩:=CV.form hx;have hlo:=fun W=>qV ⟨.slice A1 key.length a1,.slice B1 val.length b1,⟨key,ck,val,pg,ct⟩⟩ W;unfold zJ at hlo;have hA:=hB.trans ((((Below.refl wr.heap.size wr).alloc (Nat.le_refl _) (.cells #[.slice A1 key.length a1,.int .i64 ck,.slice B1 val.length b1,.int .i64 pg,.int .i64 ct] 43))).mono hB.size);have hx':CV.ok (wr.alloc (.cells #[.slice A1 key.length a1,.int .i64 ck,.slice B1 val.length b1,.int .i64 pg,.int .i64 ct] 43)) ⟨.slice A1 key.length a1,.slice B1 val.length b1,⟨key,ck,val,pg,ct⟩⟩:=hx.below ((Below.refl _ _).alloc (Nat.le_refl _) _);have hS':zW ((pcs l).take (k+1))=zW ((pcs l).take k)+(2+z9 ⟨key,ck,val,pg,ct⟩):=hS;have HS:=Lib.hid hS';have hkv':key.length+val.length≤4611686018427387904:=hkv
   have hS2:zW ((pcs l).take k)+(2+z9 ⟨key,ck,val,pg,ct⟩)≤4611686018427387904:=by omega
   generalize zW ((pcs l).take k)=s at*;generalize z9 ⟨key,ck,val,pg,ct⟩=lo at*;clear hS hS' hS1 hmem hx hB hkv;go_wp2_with fail;refine (hlo _ hx' (show key.length+val.length≤9223372036854775000 by omega)).mono ?_;rintro e w2 ⟨rfl,hb2⟩;have hB2:=hA.trans (hb2.mono hA.size);go_wp2_with fail;go_roundw
   case rel=>exact ⟨k+1,by omega,by go_num,by rw [HS.out];go_num,hB2⟩
   case measure=>simp [intOf];omega
  ·obtain rfl:k=l.length:=by omega
   have e:(pcs l).take l.length=pcs l:=List.take_of_length_le (by rw [zA];omega);rw [e];go_wp2_with fail;go_ret;exact ⟨rfl,hB⟩
theorem zAR (v:Value) (b:List UInt8) (at_ wd:Nat) (h1:1≤wd) (h4:wd≤4) (ha:at_+wd≤b.length) (w:World) (hv:RdB w v b):
 Calls Tryz.prog 132 #[v,.int .i64 (at_:Int),.int .i64 (wd:Int)] w fun e w'=>e= .returned (.int .i64 (zL b at_ wd:Nat))∧w=w':=by
 have hn:qU ((b.drop at_).take wd)<4294967296:=by
  refine Nat.lt_of_lt_of_le (mG _) ?_
  calc 256^((b.drop at_).take wd).length≤256^4:=Nat.pow_le_pow_right (by omega) (by simp;omega)
   _=4294967296:=by decide
 have hr:=d8 v b at_ wd h1 (by omega) ha w hv;unfold zL;obtain ⟨A,c,rfl,hm⟩:=hv.form;generalize qU ((b.drop at_).take wd)=q at*;go_enter Tryz.func132,Tryz.ntmps132;go_wp2_with fail;refine hr.mono ?_;rintro e w1 ⟨rfl,rfl⟩;go_wp2_with fail;go_ret;exact ⟨by go_num,rfl⟩
theorem RdB.recap {w:World} {A:Option Addr} {n c c':Nat} {l:List UInt8} (h:RdB w (.slice A n c) l) (h1:n≤c') (h2:c'≤maxLen):RdB w (.slice A n c') l:=by
 obtain ⟨A',c'',hv,k1,k2,k3⟩:=h;injection hv with hA hn hc;subst hA hn hc;exact ⟨A,c',rfl,h1,h2,k3⟩
theorem RdB.run_lhm {w:World} {A:Option Addr} {m c:Nat} {l:List UInt8} (h:RdB w (.slice A m c) l) (lo n:Nat) (h1:lo+n≤l.length):
 ∃A',(∀w',(Instr.slice 41 (.slice A m c) (some (.int .i64 (lo:Int))) (some (.int .i64 ((lo:Int)+(n:Int)))) (some (.int .i64 ((lo:Int)+(n:Int))))).run Tryz.prog w'= .ok (.slice A' n n) w')∧RdB w (.slice A' n n) ((l.drop lo).take n):=by
 obtain ⟨_,hc,hm⟩:=h.cap
 have e:((lo:Int)+(n:Int)).toNat=lo+n:=by omega
 refine ⟨if n=0 then A else A.map (·.add lo),fun w'=> ?_,?_⟩
 ·have:=run_slice_lhm (P:=Tryz.prog) w' 41 A m c p9 .i64 .i64 .i64 lo ((lo:Int)+n) ((lo:Int)+n) (by omega) (by omega) (by omega) (by omega)
  rw [this,dB];simp [Result.andThen,sliced,e]
 ·by_cases h0:n=0
  ·subst h0;exact ⟨A,0,by simp,by simp,by simp [maxLen],fun j hj=>by simp at hj⟩
  ·have hr:=h.cut (lo:=lo) (hi:=lo+n) (by omega) h1;rw [show lo+n-lo=n by omega,←List.take_drop,if_neg (show ¬c=lo by omega)] at hr;rw [if_neg h0];exact hr.recap (Nat.le_refl _) (by simp only [maxLen];omega)
theorem zFX (v:Value) (b:List UInt8) (at_ n:Nat) (ha:at_+n≤b.length) (hb:b.length≤140737488355328) (w:World) (hv:RdB w v b):
 Calls Tryz.prog 166 #[v,.int .i64 (at_:Int),.int .i64 (n:Int)] w fun e w'=>∃g,e= .returned (.slice (some ⟨g,0,none⟩) n n)∧g=w.heap.size∧OwB w' w.heap.size (.slice (some ⟨g,0,none⟩) n n) ((b.drop at_).take n)∧Below w.heap.size w w':=by
 obtain ⟨A,c,rfl,hm⟩:=hv.form;obtain ⟨A',hq,hr⟩:=hv.run_lhm at_ n ha
 have hl:((b.drop at_).take n).length=n:=by simp;omega
 have hw:IntKind.i64.wrap ((at_:Int)+(n:Int))=(at_:Int)+(n:Int):=by rw [IntKind.wrap_i64];omega
 go_enter Tryz.func166,Tryz.ntmps166;go_wp2_with (first|(at_make;refine bQ rfl (.tmp 19) (.tmp 19) rfl _ n rfl rfl rfl (by omega) ?_;intro w1 hb1 hw1 hs1)|((with_reducible refine dM ?_);refine dG rfl (.tmp 21) (.tmp 22) rfl _ n n w.heap.size 0 rfl _ hb1 (fun _=>rfl) (by simp) _ _ rfl (hr.below hw1 (Nat.le_refl _)) ?_;intro w2 hb2 hg2)|fail);go_ret
 have e:splice (List.replicate n (0:UInt8)) 0 (((b.drop at_).take n).take (min ((b.drop at_).take n).length n))=(b.drop at_).take n:=by
  rw [hl,Nat.min_self,List.take_of_length_le (by omega)];unfold splice;rw [hl]
  simp
 rw [e] at hb2
 have:=hb2.owB' (base:=w.heap.size) (Nat.le_refl _) (by rw [hl];simp only [maxLen];omega)
 rw [hl] at this;exact ⟨_,rfl,rfl,this,hw1.grown hg2 hw1.size (fun k hk=>Nat.le_of_eq (Option.some.inj hk))⟩
structure Turn (F:Nat→Prop) (w w':World):Prop where
 os:w'.os=w.os
 tape:w'.tape=w.tape
 output:w'.output=w.output
 size:w.heap.size≤w'.heap.size
 block:∀k,k<w.heap.size→¬F k→w'.heap[k]? =w.heap[k]?
structure Step (F:Nat→Prop) (w:World) (F':Nat→Prop) (w':World):Prop where
 turn:Turn F w w'
 grow:∀k,F' k→F k∨w.heap.size≤k
section
variable {F F' F'' G:Nat→Prop} {w w' w'':World}
theorem Turn.refl (F:Nat→Prop) (w:World):Turn F w w:=⟨rfl,rfl,rfl,Nat.le_refl _,fun _ _ _=>rfl⟩
theorem Turn.trans (h:Turn F w w') (k:Turn F' w' w'') (hs:∀b,F' b→F b∨w.heap.size≤b):Turn F w w'':=
 ⟨k.os.trans h.os,k.tape.trans h.tape,k.output.trans h.output,Nat.le_trans h.size k.size,fun b hb hn=>
  (k.block b (Nat.lt_of_lt_of_le hb h.size) (fun h'=>(hs b h').elim hn (fun h1=>by omega))).trans (h.block b hb hn)⟩
theorem Turn.mono (h:Turn F w w') (hs:∀b,F b→G b):Turn G w w':=⟨h.os,h.tape,h.output,h.size,fun b hb hn=>h.block b hb (fun e=>hn (hs b e))⟩
theorem Turn.of_grown {row:Option Nat} (h:w.grownBy w' row) (hr:∀k,row=some k→F k):Turn F w w':=
 ⟨h.os,h.tape,h.output,h.size,fun b hb hn=>h.block b hb (fun e=>hn (hr b e.symm))⟩
theorem Turn.of_below (h:Below w.heap.size w w'):Turn F w w':=⟨h.os,h.tape,h.output,h.size,fun b hb _=>h.block b hb⟩
theorem Turn.below {B:Nat} (h:Turn F w w') (hB:B≤w.heap.size) (hF:∀b,F b→B≤b):Below B w w':=
 ⟨h.os,h.tape,h.output,h.size,fun b hb=>h.block b (by omega) (fun e=>by have:=hF b e;omega)⟩
theorem Turn.drew (h:Turn F w w'):Turn F w w'.drew:=⟨h.os,h.tape,h.output,h.size,h.block⟩
theorem Turn.drewN (h:Turn F w w') (n:Nat):Turn F w (w'.drewN n):=⟨h.os,h.tape,h.output,h.size,h.block⟩
theorem Turn.grown {row:Option Nat} (h:Turn F w w') (k:w'.grownBy w'' row) (hr:∀b,row=some b→F b∨w.heap.size≤b):Turn F w w'':=
 h.trans (F':=fun b=>row=some b) (Turn.of_grown k fun _ e=>e) hr
theorem Turn.new (h:Turn F w w') (k:Below w.heap.size w' w''):Turn F w w'':=
 ⟨k.os.trans h.os,k.tape.trans h.tape,k.output.trans h.output,Nat.le_trans h.size k.size,fun b hb hn=>(k.block b hb).trans (h.block b hb hn)⟩
theorem Turn.alloc (h:Turn F w w') (o:Obj):Turn F w (w'.alloc o):=h.new ((Below.refl _ _).alloc h.size o)
theorem Turn.setCell (h:Turn F w w') (p:Addr) (u:Value) (hp:F p.block∨w.heap.size≤p.block):Turn F w (w'.setCell p u):=
 h.grown (zY w' p u) (fun b e=>by cases e;exact hp)
theorem Step.refl (F:Nat→Prop) (w:World):Step F w F w:=⟨Turn.refl _ _,fun _ h=> .inl h⟩
theorem Step.trans (h:Step F w F' w') (k:Step F' w' F'' w''):Step F w F'' w'':=
 ⟨h.turn.trans k.turn h.grow,fun b hb=>(k.grow b hb).elim (h.grow b) (fun h1=> .inr (Nat.le_trans h.turn.size h1))⟩
def Off (F:Nat→Prop) (v:Value):Prop:=∀g,v.ownBlock=some g→¬F g
theorem OwB.turn {b:Nat} {v:Value} {l:List UInt8} (h:OwB w b v l) (ht:Turn F w w') (ho:Off F v):OwB w' b v l:=
 Own.heap h fun g hg=>ht.block g (h.lt g hg).2 (ho g hg)
theorem OwB.off {b:Nat} {v:Value} {l:List UInt8} (h:OwB w b v l) (hs:Step F w F' w') (ho:Off F v):Off F' v:=fun g hg hf=>by
 rcases hs.grow g hf with h1|h1
 ·exact ho g hg h1
 ·have:=(h.lt g hg).2
  omega
theorem OBlk.turn {g:Nat} {T:TypeId} {cs:List Value} (h:OBlk w g T cs) (ht:Turn F w w') (hg:¬F g):OBlk w' g T cs:=h.of_heap (ht.block g h.lt hg)
end
theorem zAG (k:Nat) (h:k<16): [Value.int IntKind.u32 0,Value.int IntKind.u32 274646895,Value.int IntKind.u32 549293790,
 Value.int IntKind.u32 820201905,Value.int IntKind.u32 1098587580,Value.int IntKind.u32 1361435347,
 Value.int IntKind.u32 1640403810,Value.int IntKind.u32 1905808397,Value.int IntKind.u32 2197175160,
 Value.int IntKind.u32 2460548119,Value.int IntKind.u32 2722870694,Value.int IntKind.u32 2987750089,
 Value.int IntKind.u32 3280807620,Value.int IntKind.u32 3553878443,Value.int IntKind.u32 3811616794,
 Value.int IntKind.u32 4084100981][k]? =some (.int .u32 (halfTab.getD k 0:Nat)):=by
 match k,h with
 |0,_|1,_|2,_|3,_|4,_|5,_|6,_|7,_|8,_|9,_|10,_|11,_|12,_|13,_|14,_|15,_=>rfl
 |k+16,h=>omega
theorem aZ (r:Nat) (h:r<4294967296) (w:World):
 Calls Tryz.prog 172 #[.int .u32 r] w fun e w'=>e= .returned (.int .u32 (fK r:Nat))∧Below w.heap.size w w':=by
 have hb:bits .and .u32 (r:Int) 15=((r%16:Nat):Int):=by rw [←nat_mask4];exact u32_and_nat r 15 h (by omega)
 have h1:(0:Int)≤((r%16:Nat):Int):=by omega
 have h2:((r%16:Nat):Int)<16:=by omega
 have ht:=zAG (r%16) (by omega);rw [show halfTab.getD (r%16) 0=fK r from rfl] at ht;go_enter Tryz.func172,Tryz.ntmps172
 go_wp2
 go_ret;exact ⟨rfl,(Below.refl _ _).alloc (Nat.le_refl _) _⟩
def pP (r:Nat):Nat:=fK r^^^r/16
theorem o3 (r:Nat) (h:r<4294967296):pP r<4294967296:=Nat.xor_lt_two_pow (n:=32) (oV r) (by omega)
theorem iH (r:Nat) (x:UInt8):gV r x=pP (pP (r^^^x.toNat)):=uR r x
theorem aJ (r:Nat) (h:r<4294967296):bits .xor .u32 (fK r:Nat) ((r:Int)/16)=(pP r:Nat):=by
 exact u32_xor_nat (fK r) (r/16) (oV r) (by omega)
theorem zHO (r:Nat) (h:r<4294967296):bits .xor .u32 IntKind.u32.max (r:Int)=((r^^^4294967295:Nat):Int):=by
 rw [Nat.xor_comm];exact u32_xor_nat 4294967295 r (by omega) h
theorem zBK (v:Value) (ls:List (List UInt8)) (w:World) (hv:RdL w v ls):
 Calls Tryz.prog 143 #[v] w fun e w'=>e= .returned (.int .u32 (jQ ls.flatten:Nat))∧Below w.heap.size w w':=by
 obtain ⟨A,c,rfl,hm⟩:=hv.form;go_enter Tryz.func143,Tryz.ntmps143
 go_wp2
 go_loopw [3,10] (fun r i wr=>∃(k:Nat),i= .int .i64 (k:Int)∧k≤ls.length∧r= .int .u32 (kG 4294967295 (ls.take k).flatten:Nat)∧Below w.heap.size w wr)
  (fun _ i _=>ls.length-(intOf i).toNat)
 case atStart=>exact ⟨0,rfl,Nat.zero_le _,rfl,Below.refl _ _⟩
 case round=>
  obtain ⟨k,rfl,hk,rfl,hw⟩:=hrel
  by_cases hlt:k<ls.length
  ·obtain ⟨ad,A2,c2,rfl,hcell,hru0⟩:=(hv.below hw (Nat.le_refl _)).at_ hlt;have hm2:=hru0.le;have hfl:=zDU ls k hlt;have HF:=Lib.hid hfl;generalize ls[k]=l at*;clear hfl
   go_wp2
   obtain ⟨wo,rfl⟩:∃wo:World,wo=wr:=⟨_,rfl⟩
   go_loopw [3,16] (fun r i wi=>∃(j:Nat),i= .int .i64 (j:Int)∧j≤l.length∧r= .int .u32 (kG (kG 4294967295 (ls.take k).flatten) (l.take j):Nat)∧Below wo.heap.size wo wi)
    (fun _ i _=>l.length-(intOf i).toNat)
   case atStart=>exact ⟨0,rfl,Nat.zero_le _,rfl,Below.refl _ _⟩
   case round=>
    obtain ⟨j,rfl,hj,rfl,hwi⟩:=hrel;have hr0:kG (kG 4294967295 (ls.take k).flatten) (l.take j)<4294967296:=dH _ _ (dH _ _ (by omega))
    by_cases hjl:j<l.length
    ·obtain ⟨ad2,hA2,hcell2⟩:=(hru0.below hwi (Nat.le_refl _)).at_ hjl;subst hA2
     have hsn:kG (kG 4294967295 (ls.take k).flatten) (l.take (j+1))=pP (pP (kG (kG 4294967295 (ls.take k).flatten) (l.take j)^^^l[j].toNat)):=by
      rw [List.take_succ_eq_append_getElem hjl,tU,iH]
     have HS:=Lib.hid hsn;clear hsn;have hx:=u32_xor_nat _ l[j].toNat hr0 (by have:=l[j].toNat_lt;omega);have hx1:kG (kG 4294967295 (ls.take k).flatten) (l.take j)^^^l[j].toNat<4294967296:=Nat.xor_lt_two_pow (n:=32) hr0 (by have:=l[j].toNat_lt;omega);have hxb:l[j].toNat<256:=l[j].toNat_lt;generalize kG (kG 4294967295 (ls.take k).flatten) (l.take j)=r at*;generalize l[j].toNat=x at*;generalize r^^^x=y at*;have hy1:=aJ y hx1;have hy2:=aJ (pP y) (o3 y hx1);go_wp2_with fail;refine (aZ y hx1 _).mono ?_;rintro e w1 ⟨rfl,hb1⟩;go_wp2_with fail;refine (aZ (pP y) (o3 y hx1) _).mono ?_;rintro e w2 ⟨rfl,hb2⟩
     go_wp2
     go_roundw
     case rel=>exact ⟨j+1,by go_num,by omega,by rw [HS.out],hwi.trans (((hb1.mono hwi.size)).trans (hb2.mono (Nat.le_trans hwi.size hb1.size)))⟩
     case measure=>simp [intOf];omega
    ·obtain rfl:j=l.length:=by omega
     rw [List.take_length] at*
     have hz:kG (kG 4294967295 (ls.take k).flatten) l=kG 4294967295 (ls.take (k+1)).flatten:=by rw [HF.out,uG]
     rw [hz];clear hz
     go_wp2
     go_roundw
     case rel=>exact ⟨k+1,by go_num,by omega,rfl,hw.trans (hwi.mono hw.size)⟩
     case measure=>simp [intOf];omega
  ·obtain rfl:k=ls.length:=by omega
   rw [List.take_length];have hr0:kG 4294967295 ls.flatten<4294967296:=dH _ _ (by omega);have hn:=zHO _ hr0;rw [show kG 4294967295 ls.flatten^^^4294967295=jQ ls.flatten from rfl] at hn
   go_wp2
   go_ret;exact ⟨rfl,hw⟩
theorem tF (L a b:List UInt8) (o:Nat) (h:o+a.length+b.length≤L.length):splice (splice L o a) (o+a.length) b=splice L o (a++b):=by
 have h1:(L.take o++a).length=o+a.length:=by simp;omega
 have e0:splice L o a=(L.take o++a)++L.drop (o+a.length):=by unfold splice;rw [List.append_assoc]
 have e1:(splice L o a).take (o+a.length)=L.take o++a:=by rw [e0,List.take_left' h1]
 have e2:(splice L o a).drop (o+a.length+b.length)=L.drop (o+a.length+b.length):=by
  rw [e0,List.drop_append,h1,List.drop_of_length_le (by omega),List.nil_append,List.drop_drop]
  congr 1;omega
 show (splice L o a).take (o+a.length)++(b++(splice L o a).drop (o+a.length+b.length))=_
 rw [e1,e2];unfold splice;rw [List.length_append,Nat.add_assoc];simp only [List.append_assoc]
theorem vR {L a:List UInt8} {o:Nat} (h:o+a.length≤L.length):(splice L o a).length=L.length:=by
 unfold splice;simp;omega
theorem kT (L a b:List UInt8) (o d n:Nat) (hd:d=o+a.length) (hn:b.length≤n) (h:o+a.length+b.length≤L.length):splice (splice L o a) d (b.take (min b.length n))=splice L o (a++b):=by
 rw [Nat.min_eq_left hn,List.take_length,hd,tF L a b o h]
theorem bT (n:Nat) (hn:n<18446744073709551616) (w:World):Calls Tryz.prog 141 #[.int .u64 n,.int .i64 2] w fun e w'=>e= .returned (.slice (some ⟨w.heap.size,0,none⟩) 2 2)∧OBlk w' w.heap.size 5 (bvs (zI n 2))∧Below w.heap.size w w'∧w'.heap.size=w.heap.size+1:=wK n hn 2 (by omega) (by omega) w
theorem jY (pre mid post new:List UInt8) (o:Nat) (ho:pre.length=o) (h:mid.length=new.length):splice (pre++(mid++post)) o new=pre++(new++post):=by
 unfold splice;rw [List.take_left' ho,List.drop_append,ho,List.drop_of_length_le (by omega),List.nil_append,show o+new.length-o=new.length by omega,←h,List.drop_left' rfl]
theorem RdB.slice0 {w:World} {g n c:Nat} {L:List UInt8} (h:OBlk w g 5 (bvs L)) (hn:n≤L.length) (hc:L.length=c) (hm:c≤140737488355328):RdB w (.slice (some ⟨g,0,none⟩) n c) (L.take n):=by
 have:=(h.owB (base:=0) (Nat.zero_le _) (by simp only [maxLen];omega) (n:=n) hn).rd
 rw [hc] at this;exact this
theorem gU {P:Nat} {c:PC} (h:OkC P c) (hP:P≤65536):c.key.length+c.val.length≤131072:=by
 have h1:=h.k0;have h2:=h.v0;have h3:=h.v1
 by_cases h:c.kind=1
 ·have:=(h2 h).1;omega
 ·rw [(h3 h).1];simp;omega
theorem kA (l:List PC) {i:Nat} (hi:i<l.length):xH l (i+1)=some l[i].key:=by
 unfold xH;rw [if_neg (by omega)];simp [List.getD,hi]
end Go.Proofs.YtfcnkpofcekmgaaGreat
