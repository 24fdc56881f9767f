/- Texts joined. -/
import Derived.Test.YtfcnkpofcekmgaaGreatNQ5
import Derived.Deep.RegionLaw
set_option maxRecDepth 100000
set_option maxHeartbeats 64000000
namespace Go.Proofs.YtfcnkpofcekmgaaGreat
open Go.RowKit
def z6 (key:List UInt8):List PC→Nat
 | []=>0
 |c::r=>if yD c.key key<0 then z6 key r+1 else 0
def isF (key:List UInt8) (l:List PC):Bool:=decide (∃c,l[z6 key l]? =some c∧c.key=key)
theorem mF (key:List UInt8) (l:List PC):z6 key l≤l.length:=by
 induction l with
 |nil=>simp [z6]
 |cons c r ih=>rw [z6];split<;>simp<;>omega
theorem rI {key:List UInt8}:∀{l:List PC} {k:Nat},(∀j (_hj:j<k) (hl:j<l.length),yD l[j].key key<0)→k≤l.length→z6 key l=k+z6 key (l.drop k)
 |l,0,_,_=>by simp
 | [],k+1,_,h=>by simp at h
 |c::r,k+1,h,hk=>by
  have h0:yD c.key key<0:=h 0 (by omega) (by simp);rw [z6,if_pos h0,List.drop_succ_cons,rI (k:=k) (fun j hj hl=>h (j+1) (by omega) (by simpa using hl)) (by simpa using hk)];omega
theorem kP:∀(a b c:List UInt8),yD a b<0→yD b c<0→yD a c<0
 | [],[],_,h,_=>by simp [yD] at h
 |_::_,[],_,h,_=>by simp [yD] at h
 | [],_::_,[],_,h=>by simp [yD] at h
 | [],_::_,_::_,_,_=>by simp [yD]
 |_::_,_::_,[],_,h=>by simp [yD] at h
 |x::a,y::b,z::c,h1,h2=>by
  unfold yD at h1 h2⊢;simp only [UInt8.lt_iff_toNat_lt] at h1 h2⊢
  split at h1
  ·split at h2
   ·rw [if_pos (by omega)];omega
   ·split at h2
    ·omega
    ·rw [if_pos (by omega)];omega
  ·split at h1
   ·omega
   ·split at h2
    ·rw [if_pos (by omega)];omega
    ·split at h2
     ·omega
     ·rw [if_neg (by omega),if_neg (by omega)];exact kP a b c h1 h2
theorem qO:∀(a b:List UInt8),Op.bytesLess a b=decide (yD a b<0)
 | [],[]=>by simp [Op.bytesLess,yD]
 |_::_,[]=>by simp [Op.bytesLess,yD]
 | [],_::_=>by simp [Op.bytesLess,yD]
 |x::a,y::b=>by
  rw [Op.bytesLess,qO a b,yD]
  by_cases h1:x<y
  ·simp [h1]
  ·by_cases h2:y<x
   ·have:¬x=y:=fun e=>by subst e;exact h1 h2
    simp [h1,h2,this]
   ·have e:x=y:=by
     rw [UInt8.lt_iff_toNat_lt] at h1 h2;exact UInt8.toNat_inj.mp (by omega)
    subst e;simp [h1]
theorem gS {kind:Int} {P:Nat}:∀{l:List PC} {p:Option (List UInt8)},yT kind P p l=0→(∀q,p=some q→∀c∈l,yD q c.key<0)∧l.Pairwise (fun a b=>yD a.key b.key<0)
 | [],_,_=>⟨fun _ _ c hc=>(by cases hc),List.Pairwise.nil⟩
 |c::r,p,h=>by
  rw [yT] at h
  split at h
  ·cases h
  ·split at h
   ·cases h
   ·rename_i ha
    obtain ⟨h1,h2⟩:=gS (l:=r) h;have hr:=h1 c.key rfl;refine ⟨fun q hq d hd=> ?_,List.Pairwise.cons (fun d hd=>hr d hd) h2⟩;subst hq
    have hqc:yD q c.key<0:=by simpa [qW] using ha
    rcases List.mem_cons.1 hd with rfl|hd
    ·exact hqc
    ·exact kP _ _ _ hqc (hr d hd)
theorem mQ {key:List UInt8}:∀{l:List PC} {j:Nat} (hj:j<l.length),j<z6 key l→yD l[j].key key<0
 | [],_,hj,_=>by simp at hj
 |c::r,0,_,h=>by
  rw [z6] at h
  split at h
  ·assumption
  ·omega
 |c::r,j+1,hj,h=>by
  rw [z6] at h
  split at h
  ·exact mQ (l:=r) (by simpa using hj) (by omega)
  ·omega
theorem iK {key:List UInt8}:∀{l:List PC} (hj:z6 key l<l.length),¬yD l[z6 key l].key key<0
 | [],hj=>by simp at hj
 |c::r,hj=>by
  by_cases h:yD c.key key<0
  ·have e:z6 key (c::r)=z6 key r+1:=by rw [z6,if_pos h]
   have hj':z6 key r<r.length:=by rw [e] at hj;simpa using hj
   have:=iK hj'
   simp only [e,List.getElem_cons_succ];exact this
  ·have e:z6 key (c::r)=0:=by rw [z6,if_neg h]
   simp only [e,List.getElem_cons_zero];exact h
theorem lF {key:List UInt8} {l:List PC} (hs:l.Pairwise (fun a b=>yD a.key b.key<0)) {j:Nat} (hj:j<l.length) (h:z6 key l≤j):¬yD l[j].key key<0:=by
 intro hlt;have h1:=iK (key:=key) (l:=l) (by omega);rcases Nat.lt_or_ge (z6 key l) j with h2|h2
 ·exact h1 (kP _ _ _ (List.pairwise_iff_getElem.1 hs _ _ (by omega) hj h2) hlt)
 ·have e:z6 key l=j:=by omega
  simp only [e] at h1;exact h1 hlt
theorem eZ {key:List UInt8} {l:List PC} (h:z6 key l<l.length):isF key l=(l[z6 key l].key==key):=by
 unfold isF;rw [Bool.eq_iff_iff,decide_eq_true_iff,beq_iff_eq];refine ⟨fun ⟨c,hc,he⟩=> ?_,fun he=>⟨_,List.getElem?_eq_getElem h,he⟩⟩;rw [List.getElem?_eq_getElem h] at hc;rw [Option.some.inj hc];exact he
theorem zE8 {key:List UInt8} {l:List PC} (h:¬z6 key l<l.length):isF key l=false:=by
 unfold isF;refine decide_eq_false fun ⟨c,hc,_⟩=> ?_;rw [List.getElem?_eq_none (by omega)] at hc
 cases hc
def Rising (l:List PC):Prop:=l.Pairwise (fun a b=>yD a.key b.key<0)
theorem nQ {kind:Int} {P:Nat}:∀{l:List PC} {p:Option (List UInt8)},(∀c∈l,zQ kind P c=true)→(∀q,p=some q→∀c∈l,yD q c.key<0)→Rising l→yT kind P p l=0
 | [],_,_,_,_=>rfl
 |c::r,p,hm,hp,hs=>by
  have hs':=List.pairwise_cons.1 hs;rw [yT,if_neg (by rw [hm c (by simp)];simp)]
  have ha:qW p c.key=true:=by
   cases p with
   |none=>rfl
   |some q=>exact decide_eq_true (hp q rfl c (by simp))
  rw [if_neg (by rw [ha];simp)];exact nQ (fun d hd=>hm d (by simp [hd])) (fun q hq d hd=>by injection hq with hq;subst hq;exact hs'.1 d hd) hs'.2
def zX (l:List PC) (i gone:Nat) (c:PC):List PC:=l.take i++(c::l.drop (i+gone))
theorem sO (l:List PC):Rising l↔∀k (h:k+1<l.length),yD (l[k]'(by omega)).key l[k+1].key<0:=by
 refine ⟨fun h k hk=>List.pairwise_iff_getElem.1 h k (k+1) (by omega) hk (by omega),fun h=>List.pairwise_iff_getElem.2 fun i j hi hj hij=> ?_⟩;obtain ⟨d,rfl⟩:∃d,j=i+1+d:=⟨j-(i+1),by omega⟩
 induction d with
 |zero=>exact h i hj
 |succ d ih=>exact kP _ _ _ (ih (by omega) (by omega)) (h (i+1+d) (by omega))
theorem Rising.at_ {l:List PC} (h:Rising l) {i j:Nat} (hij:i<j) (hj:j<l.length):yD (l[i]'(by omega)).key l[j].key<0:=List.pairwise_iff_getElem.1 h i j (by omega) hj hij
theorem cL {l:List PC} {i gone:Nat} {c:PC} (hs:Rising l) (hi:i+gone≤l.length):
 Rising (zX l i gone c)↔(∀h:0<i,yD (l[i-1]'(by omega)).key c.key<0)∧(∀h:i+gone<l.length,yD c.key l[i+gone].key<0):=by
 constructor
 ·intro h;unfold Rising zX at h;rw [List.pairwise_append,List.pairwise_cons] at h;obtain ⟨-,⟨h2,-⟩,h4⟩:=h;refine ⟨fun h=>h4 _ ?_ c (by simp),fun h=>h2 _ ?_⟩
  ·exact List.mem_take_iff_getElem.2 ⟨i-1,by omega,rfl⟩
  ·rw [List.drop_eq_getElem_cons h];exact List.mem_cons_self ..
 ·rintro ⟨ha,hb⟩
  have hlo:∀x∈l.take i,yD x.key c.key<0:=by
   intro x hx;obtain ⟨j,hj,rfl⟩:=List.getElem_of_mem hx;rw [List.length_take] at hj;rw [List.getElem_take]
   by_cases e:j=i-1
   ·subst e;exact ha (by omega)
   ·exact kP _ _ _ (hs.at_ (i:=j) (j:=i-1) (by omega) (by omega)) (ha (by omega))
  have hhi:∀x∈l.drop (i+gone),yD c.key x.key<0:=by
   intro x hx;obtain ⟨j,hj,rfl⟩:=List.getElem_of_mem hx;rw [List.length_drop] at hj;rw [List.getElem_drop]
   by_cases e:j=0
   ·subst e;exact hb (by omega)
   ·exact kP _ _ _ (hb (by omega)) (hs.at_ (i:=i+gone) (j:=i+gone+j) (by omega) (by omega))
  unfold Rising zX;rw [List.pairwise_append,List.pairwise_cons];refine ⟨hs.sublist (List.take_sublist _ _),⟨hhi,hs.sublist (List.drop_sublist _ _)⟩,fun x hx y hy=> ?_⟩;rcases List.mem_cons.1 hy with rfl|hy
  ·exact hlo x hx
  ·exact kP _ _ _ (hlo x hx) (hhi y hy)
def jB (l:List PC) (i:Nat) (c:PC):Int:=if h:0<i∧i-1<l.length then yD (l[i-1]'h.2).key c.key else -1
def yY (l:List PC) (j:Nat) (c:PC):Int:=if h:j<l.length then yD c.key l[j].key else -1
theorem sF (l:List PC) (c:PC):jB l 0 c= -1:=by unfold jB;rw [dif_neg (by omega)]
theorem r8 {l:List PC} {k:Nat} (c:PC) (h:k<l.length):jB l (k+1) c=yD l[k].key c.key:=by unfold jB;rw [dif_pos ⟨by omega,by omega⟩];rfl
theorem tZ {l:List PC} {j:Nat} (c:PC) (h:j<l.length):yY l j c=yD c.key l[j].key:=by unfold yY;rw [dif_pos h]
theorem sA {l:List PC} {j:Nat} (c:PC) (h:l.length≤j):yY l j c= -1:=by unfold yY;rw [dif_neg (by omega)]
def sB (l:List PC) (i:Int):Int:=if i<0∨(l.length:Int)≤i then 64 else 0
def cT (l:List PC) (i:Int):List PC:=if i<0∨(l.length:Int)≤i then l else l.take i.toNat++l.drop (i.toNat+1)
def jA (l:List PC) (i:Int):Int:=if i<0∨(l.length:Int)≤i then 64 else 0
def xG (l:List PC) (i:Int):PC:=if i<0∨(l.length:Int)≤i then ⟨[],0,[],0,0⟩ else l.getD i.toNat ⟨[],0,[],0,0⟩
structure PgAt (w:World) (p:Nat) (kind:Int) (P:Nat) (used:Int) (v:Value) (l:List CV):Prop where
 blk:OBlk w p 144 [.int .i64 kind,.int .i64 (P:Int),.int .i64 used,v]
 rd:RdCs w v l
theorem PgAt.below {w w':World} {p:Nat} {kind:Int} {P:Nat} {used:Int} {v:Value} {l:List CV} (h:PgAt w p kind P used v l) (hb:Below w.heap.size w w'):PgAt w' p kind P used v l:=
 ⟨h.blk.below hb h.blk.lt,h.rd.below hb⟩
theorem xP {w:World} {g:Nat} {T:TypeId} {a0 a1 a2 a3:Value} (h:OBlk w g T [a0,a1,a2,a3]):
 w.cell? ⟨g,0,none⟩=some a0∧w.cell? ⟨g,1,none⟩=some a1∧w.cell? ⟨g,2,none⟩=some a2∧w.cell? ⟨g,3,none⟩=some a3:=
 ⟨h.cell 0,h.cell 1,h.cell 2,h.cell 3⟩
section
variable {w:World} {p:Nat} {kind:Int} {P:Nat} {used:Int} {v:Value} {l:List CV}
theorem zEN (h:PgAt w p kind P used v l):Calls Tryz.prog 203 #[.pointer (some ⟨p,0,none⟩)] w fun e w'=>e= .returned (.int .i64 (l.length:Int))∧w=w':=by
 obtain ⟨A,c,rfl,hm,hc⟩:=h.rd.slice;obtain ⟨c0,c1,c2,c3⟩:=xP h.blk;go_enter Tryz.func203,Tryz.ntmps203;go_wp2_with fail;go_ret;exact ⟨rfl,rfl⟩
theorem zCK (h:PgAt w p kind P used v l):Calls Tryz.prog 206 #[.pointer (some ⟨p,0,none⟩)] w fun e w'=>e= .returned (.int .i64 used)∧w=w':=by
 obtain ⟨A,c,rfl,hm,hc⟩:=h.rd.slice;obtain ⟨c0,c1,c2,c3⟩:=xP h.blk;go_enter Tryz.func206,Tryz.ntmps206;go_wp2_with fail;go_ret;exact ⟨rfl,rfl⟩
end
theorem zHL (kind:Int) (P:Nat) (hk:zO kind=true) (hp:zT (P:Int)=true) (w:World):Calls Tryz.prog 70 #[.int .i64 kind,.int .i64 (P:Int)] w fun e w'=>
 ∃p,e= .returned (.tuple #[.pointer (some ⟨p,0,none⟩),.int .i64 0])∧w.heap.size≤p∧PgAt w' p kind P 8 (.slice none 0 0) []∧Below w.heap.size w w':=by
 have hr:=zZ hp;have hKi:=fun W=>bX kind W;have hPa:=fun W=>bW (P:Int) (by omega) W;rw [hk] at hKi;rw [hp] at hPa;clear hk hp;go_enter Tryz.func70,Tryz.ntmps70;go_wp2_with (first|(go_at_call 126;refine (hKi _).mono ?_;rintro e w1 ⟨rfl,rfl⟩)|(go_at_call 127;refine (hPa _).mono ?_;rintro e w1 ⟨rfl,rfl⟩)|fail);go_ret2;exact ⟨_,rfl,Nat.le_refl _,⟨OBlk.new' w 144 [.int .i64 kind,.int .i64 (P:Int),.int .i64 8,.slice none 0 0],(OwCs.nil _ 0).rd⟩,(Below.refl _ _).alloc (Nat.le_refl _) _⟩
theorem zF7 (kind P:Int) (hk:zO kind=false) (w:World):Calls Tryz.prog 70 #[.int .i64 kind,.int .i64 P] w fun e w'=>
 e= .returned (.tuple #[.pointer none,.int .i64 1])∧w=w':=by
 have hKi:=fun W=>bX kind W;rw [hk] at hKi;clear hk;go_enter Tryz.func70,Tryz.ntmps70;go_wp2_with (first|(go_at_call 126;refine (hKi _).mono ?_;rintro e w1 ⟨rfl,rfl⟩)|fail);go_ret2;exact ⟨rfl,rfl⟩
theorem zBR {w:World} {p:Nat} {kind:Int} {P:Nat} {used:Int} {v:Value} {l:List CV} (h:PgAt w p kind P used v l) (vk:Value) (key:List UInt8) (hk:RdB w vk key):
 Calls Tryz.prog 200 #[.pointer (some ⟨p,0,none⟩),vk] w fun e w'=>e= .returned (.tuple #[.int .i64 (z6 key (pcs l):Nat),.bool (isF key (pcs l))])∧Below w.heap.size w w':=by
 obtain ⟨A,c,rfl,hm,hc⟩:=h.rd.slice;obtain ⟨K,kc,rfl,hkm⟩:=hk.form;obtain ⟨c0,c1,c2,c3⟩:=xP h.blk;have hl:=h.rd;have hpl:=h.blk.lt;have hblk:=h.blk;go_enter Tryz.func200,Tryz.ntmps200;go_wp2_with fail;clear c0 c1 c2 c3
 go_loopw [14] (fun i wr=>∃k:Nat,k≤l.length∧i= .int .i64 (k:Int)∧Hid (∀j (hj:j<k) (hjl:j<(pcs l).length),yD (pcs l)[j].key key<0)∧Below w.heap.size w wr) (fun i _=>l.length-(intOf i).toNat)
 case atStart=>exact ⟨0,Nat.zero_le _,rfl,Lib.hid (fun j hj=>by omega),Below.refl _ _⟩
 case round=>
  obtain ⟨k,hk',rfl,HJ,hB⟩:=hrel;have hfd:z6 key (pcs l)=k+z6 key ((pcs l).drop k):=rI HJ.out (by rw [zA];exact hk')
  by_cases hlt:k<l.length
  ·have ik:(k:Int)<(l.length:Int):=by omega
   have hlp:k<(pcs l).length:=by rw [zA];exact hlt
   have hJ2:∀c,(pcs l)[k]=c→Hid (yD c.key key<0→∀j (hj:j<k+1) (hjl:j<(pcs l).length),yD (pcs l)[j].key key<0):=fun c hc=>Lib.hid (fun ho j hj hjl=>by
    by_cases e:j=k
    ·subst e;rw [hc];exact ho
    ·exact HJ.out j (by omega) hjl)
   have hF2:∀c,(pcs l)[k]=c→Hid (¬yD c.key key<0→z6 key (pcs l)=k∧isF key (pcs l)=decide (yD c.key key=0)):=fun c hc=>Lib.hid (fun ho=>by
    have e:z6 key (pcs l)=k:=by
     rw [hfd,List.drop_eq_getElem_cons hlp,z6,hc,if_neg ho];rfl
    refine ⟨e,?_⟩;unfold isF;rw [e];refine decide_eq_decide.2 ⟨fun ⟨d,hd,hdk⟩=> ?_,fun h0=>⟨c,by rw [List.getElem?_eq_getElem hlp,hc],lL _ _ h0⟩⟩;rw [List.getElem?_eq_getElem hlp,hc] at hd;injection hd with hd;subst hd
    rw [hdk];exact nK _)
   have hJ2:=hJ2 _ (zV hlt);have hF2:=hF2 _ (zV hlt);have hlr:=hl.below hB;obtain ⟨ad,rfl,c0,c1,c2,c3,c4⟩:=hlr.at_ hlt;have hx:=hlr.ok _ (List.getElem_mem hlt);generalize l[k]=x at*;obtain ⟨A1,a1,B1,b1,kk,ck,val,pg,ct,rfl,_,_⟩:=CV.form hx;have hA0:Below wr.heap.size wr (wr.alloc (.cells #[.slice A1 kk.length a1,.int .i64 ck,.slice B1 val.length b1,.int .i64 pg,.int .i64 ct] 43)):=(Below.refl wr.heap.size wr).alloc (Nat.le_refl _) _;have hA:=hB.trans (hA0.mono hB.size);have hcmp:=vE _ _ _ _ _ (hx.k.below hA0 (Nat.le_refl _)) (hk.below hA (Nat.le_refl _));have hJ3:Hid (yD kk key<0→∀j (hj:j<k+1) (hjl:j<(pcs l).length),yD (pcs l)[j].key key<0):=hJ2;have hF3:Hid (¬yD kk key<0→z6 key (pcs l)=k∧isF key (pcs l)=decide (yD kk key=0)):=hF2;clear hJ2 hF2 hlr hx hB hfd HJ;simp only at hcmp;generalize yD kk key=oc at*;go_wp2_with fail;refine hcmp.mono ?_;rintro e w2 ⟨rfl,rfl⟩
   by_cases ho:oc<0
   ·have i1:¬(0:Int)≤oc:=by omega
    have HJ4:=Lib.hid (hJ3.out (by omega));clear hJ3 hF3 ho;go_wp2_with fail;go_roundw
    case rel=>exact ⟨k+1,by omega,by go_num,HJ4,hA⟩
    case measure=>simp [intOf];omega
   ·have i1:(0:Int)≤oc:=by omega
    have HF4:=Lib.hid (hF3.out (by omega));clear hJ3 hF3 ho;go_wp2_with fail;go_ret2;rw [HF4.out.1,HF4.out.2];refine ⟨?_,hA⟩
    congr 1
  ·obtain rfl:k=l.length:=by omega
   have hf:z6 key (pcs l)=l.length∧isF key (pcs l)=false:=by
    have e:z6 key (pcs l)=l.length:=by
     rw [hfd,List.drop_of_length_le (by rw [zA];omega)];rfl
    refine ⟨e,?_⟩;unfold isF;rw [e];refine decide_eq_false fun ⟨d,hd,_⟩=> ?_;rw [List.getElem?_eq_none (by rw [zA];omega)] at hd
    cases hd
   have HF:=Lib.hid hf;obtain ⟨c0,c1,c2,c3⟩:=xP (hblk.below hB hpl);clear hf hfd HJ;go_wp2_with fail;go_ret2;rw [HF.out.1,HF.out.2];exact ⟨rfl,hB⟩
theorem zGH (x:CV) (w:World) (hx:x.ok w) (h1:x.c.key.length≤140737488355328) (h2:x.c.val.length≤140737488355328):
 Calls Tryz.prog 207 #[zJ x] w fun e w'=>∃y:CV,e= .returned (zJ y)∧y.c=x.c∧OwB w' w.heap.size y.kv x.c.key∧OwB w' w.heap.size y.vv x.c.val∧(∀g g',y.kv.ownBlock=some g→y.vv.ownBlock=some g'→g<g')∧Below w.heap.size w w':=by
 obtain ⟨A,ca,B,cb,key,ck,val,pg,ct,rfl,hk1,hk2⟩:=CV.form hx;simp only at h1 h2;have hkr:RdB w (.slice A key.length ca) key:=hx.k;have hvr:RdB w (.slice B val.length cb) val:=hx.v;have hC0:=OBlk.new' w 43 [.slice A key.length ca,.int .i64 ck,.slice B val.length cb,.int .i64 pg,.int .i64 ct];have hC:=hC0.alloc (.cells #[.slice none 0 0,.int .i64 0,.slice none 0 0,.int .i64 0,.int .i64 0] 43);have hR:=OBlk.new' (w.alloc (.cells #[.slice A key.length ca,.int .i64 ck,.slice B val.length cb,.int .i64 pg,.int .i64 ct] 43)) 43 [.slice none 0 0,.int .i64 0,.slice none 0 0,.int .i64 0,.int .i64 0];rw [World.size_alloc] at hR;have hA:=(((Below.refl w.heap.size w).alloc (Nat.le_refl _) (.cells #[.slice A key.length ca,.int .i64 ck,.slice B val.length cb,.int .i64 pg,.int .i64 ct] 43))).alloc (by simp) (.cells #[.slice none 0 0,.int .i64 0,.slice none 0 0,.int .i64 0,.int .i64 0] 43);unfold zJ;go_enter Tryz.func207,Tryz.ntmps207;go_upto_region 1 with (fail);have hkr0:=hkr.below hA (Nat.le_refl _);have hvr0:=hvr.below hA (Nat.le_refl _);generalize (w.alloc (.cells #[.slice A key.length ca,.int .i64 ck,.slice B val.length cb,.int .i64 pg,.int .i64 ct] 43)).alloc (.cells #[.slice none 0 0,.int .i64 0,.slice none 0 0,.int .i64 0,.int .i64 0] 43)=w0 at*;obtain ⟨c0,c1,c2,c3,c4⟩:=zC hC;have f0:=hC.frozen (j:=0) (by simp);have f2:=hC.frozen (j:=2) (by simp);have hcl:=hC.lt;have hrl:=hR.lt
 go_region_law
  (first
   |(go_simp;go_at_call 211;refine (sJ _ key _ hkr0.drew h1).mono ?_;rintro e w4 ⟨vd,rfl,hod,hw4⟩;obtain ⟨K2,kc2,rfl⟩:=Own.slice hod;have hC4:=hC.drew.below hw4 hcl;have d2:=hC4.cell' (j:=2) (u:= .slice B val.length cb) rfl;have d0:=hC4.cell' (j:=0) (u:= .slice A key.length ca) rfl;have hvr4:=hvr0.drew.below hw4 (Nat.le_refl _))
   |(go_simp;go_at_call 211;refine (sJ _ val _ hvr4 h2).mono ?_;rintro e w5 ⟨ve,rfl,hoe,hw5⟩;obtain ⟨V2,vc2,rfl⟩:=Own.slice hoe;have hC5:=hC4.below hw5 hC4.lt;have e2:=hC5.cell' (j:=2) (u:= .slice B val.length cb) rfl;have e0:=hC5.cell' (j:=0) (u:= .slice A key.length ca) rfl;have g2:=hC5.frozen (j:=2) (by simp);have g0:=hC5.frozen (j:=0) (by simp))
   |fail)
 all_goals
  have hz0:w.heap.size+1<w0.heap.size:=hrl;have hz4:w0.heap.size≤w4.heap.size:=hw4.size;have hC6:=(hC5.set 0 (.slice K2 key.length kc2)).set 2 (.slice V2 val.length vc2);simp only [List.set_cons_succ,List.set_cons_zero] at hC6;have hR5:=(hR.drew.below hw4 hrl).below hw5 (by omega);have hR6:=(hR5.far (p:=⟨w.heap.size,0,none⟩) (show w.heap.size+1≠w.heap.size by omega) (.slice K2 key.length kc2)).far (p:=⟨w.heap.size,2,none⟩) (show w.heap.size+1≠w.heap.size by omega) (.slice V2 val.length vc2);have hb5:Below w.heap.size w w5:=(hA.drew.trans (hw4.mono hA.size)).trans (hw5.mono (by have:=hA.size;omega));have hb6:=(hb5.setCell (p:=⟨w.heap.size,0,none⟩) (Nat.le_refl _) (.slice K2 key.length kc2)).setCell (p:=⟨w.heap.size,2,none⟩) (Nat.le_refl _) (.slice V2 val.length vc2);have hod5:=Own.below' hod hw5 (Nat.le_refl _);have hgk:∀k,Value.ownBlock (.slice K2 key.length kc2)=some k→w.heap.size+1<k∧k<w4.heap.size:=fun k hk=>⟨Nat.lt_of_lt_of_le hz0 (Own.lt hod k hk).1,(Own.lt hod k hk).2⟩;have hgv:∀k,Value.ownBlock (.slice V2 val.length vc2)=some k→w4.heap.size≤k:=fun k hk=>(Own.lt hoe k hk).1
  have hod6:OwB ((w5.setCell ⟨w.heap.size,0,none⟩ (.slice K2 key.length kc2)).setCell ⟨w.heap.size,2,none⟩ (.slice V2 val.length vc2)) w.heap.size (.slice K2 key.length kc2) key:=Own.heap (OwB.base_le hod5 (b:=w.heap.size) fun k hk=>by have:=(hgk k hk).1;omega) fun k hk=>by
   have:=(hgk k hk).1
   rw [Below.heap_setCell _ _ _ _ (show k≠w.heap.size by omega),Below.heap_setCell _ _ _ _ (show k≠w.heap.size by omega)]
  have hoe6:OwB ((w5.setCell ⟨w.heap.size,0,none⟩ (.slice K2 key.length kc2)).setCell ⟨w.heap.size,2,none⟩ (.slice V2 val.length vc2)) w.heap.size (.slice V2 val.length vc2) val:=Own.heap (OwB.base_le hoe (b:=w.heap.size) fun k hk=>by have:=hgv k hk;omega) fun k hk=>by
   have:=hgv k hk
   rw [Below.heap_setCell _ _ _ _ (show k≠w.heap.size by omega),Below.heap_setCell _ _ _ _ (show k≠w.heap.size by omega)]
  generalize (w5.setCell ⟨w.heap.size,0,none⟩ (.slice K2 key.length kc2)).setCell ⟨w.heap.size,2,none⟩ (.slice V2 val.length vc2)=w6 at*;clear c0 c1 c2 c3 c4 f0 f2 d0 d2 e0 e2 g0 g2 hC hC4 hC5 hR hR5 hb5 hod5;obtain ⟨y0,y1,y2,y3,y4⟩:=zC hC6;obtain ⟨r0,r1,r2,r3,r4⟩:=zC hR6;have f0:=hR6.frozen (j:=0) (by simp);have f1:=hR6.frozen (j:=1) (by simp);have f2:=hR6.frozen (j:=2) (by simp);have f3:=hR6.frozen (j:=3) (by simp);have f4:=hR6.frozen (j:=4) (by simp);have H1:=Lib.hid hgk;have H2:=Lib.hid hgv;clear hgk hgv;go_wp2_with fail;obtain ⟨e0,e1,e2,e3,e4⟩:=zC (set5 hR6 (.slice K2 key.length kc2) (.int .i64 ck) (.slice V2 val.length vc2) (.int .i64 pg) (.int .i64 ct));refine bodyPost_ret (v:= .agg #[(.slice K2 key.length kc2),.int .i64 ck,(.slice V2 val.length vc2),.int .i64 pg,.int .i64 ct]) ?_ rfl ?_
  ·simp [results,Tryz.results207,go_sem,e0,e1,e2,e3,e4]
  ·exact ⟨⟨(.slice K2 key.length kc2),(.slice V2 val.length vc2),⟨key,ck,val,pg,ct⟩⟩,rfl,rfl,ow5 hod6 (fun k hk=>by have:=(H1.out k hk).1;omega) _ _ _ _ _,ow5 hoe6 (fun k hk=>by have:=H2.out k hk;omega) _ _ _ _ _,fun g g' e e'=>by have:=(H1.out g e).2;have:=H2.out g' e';omega,pB hb6 (by omega) _ _ _ _ _⟩
theorem fT (x y:CV) (w:World) (hx:x.ok w) (hy:y.ok w) (h:y.c=x.c):Calls Tryz.prog 19 #[zJ x,zJ y] w fun e w'=>e= .returned (.bool true)∧Below w.heap.size w w':=by
 obtain ⟨kv,vv,c⟩:=y;simp only at h;subst h;obtain ⟨A,ca,B,cb,key,ck,val,pg,ct,rfl,_,_⟩:=CV.form hx;obtain ⟨A',ca',hk',_⟩:=hy.k.form;obtain ⟨B',cb',hv',_⟩:=hy.v.form;simp only at hk' hv';subst hk' hv';have hkx:RdB w (.slice A key.length ca) key:=hx.k;have hvx:RdB w (.slice B val.length cb) val:=hx.v;have hky:RdB w (.slice A' key.length ca') key:=hy.k;have hvy:RdB w (.slice B' val.length cb') val:=hy.v;have hA:=(((Below.refl w.heap.size w).alloc (Nat.le_refl _) (.cells #[.slice A key.length ca,.int .i64 ck,.slice B val.length cb,.int .i64 pg,.int .i64 ct] 43))).alloc (by simp) (.cells #[.slice A' key.length ca',.int .i64 ck,.slice B' val.length cb',.int .i64 pg,.int .i64 ct] 43);have hX:=(OBlk.new' w 43 [.slice A key.length ca,.int .i64 ck,.slice B val.length cb,.int .i64 pg,.int .i64 ct]).alloc (.cells #[.slice A' key.length ca',.int .i64 ck,.slice B' val.length cb',.int .i64 pg,.int .i64 ct] 43);have hY:=OBlk.new' (w.alloc (.cells #[.slice A key.length ca,.int .i64 ck,.slice B val.length cb,.int .i64 pg,.int .i64 ct] 43)) 43 [.slice A' key.length ca',.int .i64 ck,.slice B' val.length cb',.int .i64 pg,.int .i64 ct];rw [World.size_alloc] at hY;obtain ⟨x0,x1,x2,x3,x4⟩:=zC hX;obtain ⟨y0,y1,y2,y3,y4⟩:=zC hY;have q1:=yM (hkx.below hA (Nat.le_refl _));have q2:=yM (hvx.below hA (Nat.le_refl _));have q3:=yM (hky.below hA (Nat.le_refl _));have q4:=yM (hvy.below hA (Nat.le_refl _));unfold zJ;go_enter Tryz.func19,Tryz.ntmps19;go_wp2_with fail;go_ret;exact ⟨rfl,hA⟩
theorem q8 (u v:Value) (a b:List CV) (w:World) (ha:RdCs w u a) (hb:RdCs w v b) (h:pcs a=pcs b):Calls Tryz.prog 20 #[u,v] w fun e w'=>e= .returned (.bool true)∧Below w.heap.size w w':=by
 have hlen:a.length=b.length:=by rw [←zA a,h,zA]
 have hcc:∀i (h1:i<a.length) (h2:i<b.length),b[i].c=a[i].c:=fun i h1 h2=>by
  rw [←zV h1,←zV h2];simp only [h]
 have HC:=Lib.hid hcc;obtain ⟨A,ca,rfl,hma,hca⟩:=ha.slice;obtain ⟨B,cb,rfl,hmb,hcb⟩:=hb.slice
 have hne:(((a.length:Nat):Int) !=((b.length:Nat):Int))=false:=by rw [hlen];simp
 have HLN:=Lib.hid hlen;clear hcc hlen h;go_enter Tryz.func20,Tryz.ntmps20;go_wp2_with fail
 go_loopw [5] (fun i wr=>∃k:Nat,k≤a.length∧i= .int .i64 (k:Int)∧Below w.heap.size w wr) (fun i _=>a.length-(intOf i).toNat)
 case atStart=>exact ⟨0,Nat.zero_le _,rfl,Below.refl _ _⟩
 case round=>
  obtain ⟨k,hk,rfl,hB⟩:=hrel
  by_cases hlt:k<a.length
  ·have ik:(k:Int)<(a.length:Int):=by omega
   have hltb:k<b.length:=by rw [←HLN.out];exact hlt
   have ikb:(k:Int)<(b.length:Int):=by omega
   obtain ⟨ad,rfl,c0,c1,c2,c3,c4⟩:=(ha.below hB).at_ hlt;obtain ⟨bd,rfl,d0,d1,d2,d3,d4⟩:=(hb.below hB).at_ hltb;have hx:=(ha.below hB).ok _ (List.getElem_mem hlt);have hy:=(hb.below hB).ok _ (List.getElem_mem hltb);have hsc:=fun W (hW:Below wr.heap.size wr W)=>fT a[k] b[k] W (hx.below hW) (hy.below hW) (HC.out k hlt hltb);generalize a[k]=x at*;generalize b[k]=y at*;obtain ⟨A1,a1,B1,b1,key,ck,val,pg,ct,rfl,_,_⟩:=CV.form hx;obtain ⟨A2,a2,B2,b2,key2,ck2,val2,pg2,ct2,rfl,_,_⟩:=CV.form hy;unfold zJ at hsc;have HS:=Lib.hid hsc;clear hsc hx hy;go_upto_region 6 with (fail)
   go_region_held3 (fun w'=>w'.cell? (ad.add (k*5))=some (.slice A1 key.length a1)∧w'.cell? ⟨(ad.add (k*5)).block,(ad.add (k*5)).off+1,none⟩=some (.int .i64 ck)∧w'.cell? ⟨(ad.add (k*5)).block,(ad.add (k*5)).off+2,none⟩=some (.slice B1 val.length b1)∧w'.cell? ⟨(ad.add (k*5)).block,(ad.add (k*5)).off+3,none⟩=some (.int .i64 pg)∧w'.cell? ⟨(ad.add (k*5)).block,(ad.add (k*5)).off+4,none⟩=some (.int .i64 ct)∧
    w'.cell? (bd.add (k*5))=some (.slice A2 key2.length a2)∧w'.cell? ⟨(bd.add (k*5)).block,(bd.add (k*5)).off+1,none⟩=some (.int .i64 ck2)∧w'.cell? ⟨(bd.add (k*5)).block,(bd.add (k*5)).off+2,none⟩=some (.slice B2 val2.length b2)∧w'.cell? ⟨(bd.add (k*5)).block,(bd.add (k*5)).off+3,none⟩=some (.int .i64 pg2)∧w'.cell? ⟨(bd.add (k*5)).block,(bd.add (k*5)).off+4,none⟩=some (.int .i64 ct2))
    (first
     |exact ⟨c0,c1,c2,c3,c4,d0,d1,d2,d3,d4⟩
     |exact ⟨(hw7.cell (World.block_lt_of_cell? wr _ c0)).trans c0,(hw7.cell (World.block_lt_of_cell? wr _ c1)).trans c1,(hw7.cell (World.block_lt_of_cell? wr _ c2)).trans c2,(hw7.cell (World.block_lt_of_cell? wr _ c3)).trans c3,(hw7.cell (World.block_lt_of_cell? wr _ c4)).trans c4,(hw7.cell (World.block_lt_of_cell? wr _ d0)).trans d0,(hw7.cell (World.block_lt_of_cell? wr _ d1)).trans d1,(hw7.cell (World.block_lt_of_cell? wr _ d2)).trans d2,(hw7.cell (World.block_lt_of_cell? wr _ d3)).trans d3,(hw7.cell (World.block_lt_of_cell? wr _ d4)).trans d4⟩)
    (first
     |(go_at_call 19;refine (HS.out _ ((Below.refl _ _).drew)).mono ?_;rintro e w7 ⟨rfl,hw7⟩)
     |fail)
   go_wp2_with fail;exact ⟨⟨k+1,by omega,by go_num,hB.trans (((Below.refl wr.heap.size wr).drew.trans hw7).mono hB.size)⟩,by simp [intOf];omega⟩
  ·obtain rfl:k=a.length:=by omega
   go_wp2_with fail;go_ret;exact ⟨rfl,hB⟩
end Go.Proofs.YtfcnkpofcekmgaaGreat
namespace Go.Proofs.YtfcnkpofcekmgaaGreat
theorem dP (l:List PC) {i:Nat} (c:PC) (hi:i≤l.length):zW (zX l i 0 c)=zW l+(2+z9 c):=by
 have e:zM l=zM (l.take i)+zM (l.drop i):=by rw [←x6,List.take_append_drop]
 unfold zX;rw [yS,yS,x6];simp only [zM,List.length_append,List.length_cons,List.length_take,List.length_drop,Nat.add_zero];omega
theorem cA (l:List PC) {i:Nat} (c:PC) (hi:i<l.length):zW (zX l i 1 c)+(2+z9 l[i])=zW l+(2+z9 c):=by
 have e:zM l=zM (l.take i)+zM (l.drop i):=by rw [←x6,List.take_append_drop]
 have e2:zM (l.drop i)=z9 l[i]+zM (l.drop (i+1)):=by rw [List.drop_eq_getElem_cons hi];rfl
 unfold zX;rw [yS,yS,x6];simp only [zM,List.length_append,List.length_cons,List.length_take,List.length_drop];omega
theorem iZ (l:List PC) {i:Nat} (hi:i<l.length):zW (l.take i++l.drop (i+1))+(2+z9 l[i])=zW l:=by
 have e:zM l=zM (l.take i)+zM (l.drop i):=by rw [←x6,List.take_append_drop]
 have e2:zM (l.drop i)=z9 l[i]+zM (l.drop (i+1)):=by rw [List.drop_eq_getElem_cons hi];rfl
 rw [yS,yS,x6];simp only [List.length_append,List.length_take,List.length_drop];omega
structure Wk (kind:Int) (P:Nat) (l:List PC):Prop where
 rise:Rising l
 may:∀c∈l,zQ kind P c=true
 size:zW l≤P
theorem Wk.enc {kind:Int} {P:Nat} {l:List PC} (h:Wk kind P l):kK kind l P=0:=vS.2 ⟨nQ h.may (by simp) h.rise,h.size⟩
theorem Wk.rem {kind:Int} {P:Nat} {l:List PC} (h:Wk kind P l) {i:Nat} (hi:i<l.length):Wk kind P (l.take i++l.drop (i+1)):=by
 refine ⟨?_,fun c hc=> ?_,by have:=iZ l hi;have:=h.size;omega⟩
 ·have e:l.take i++l.drop (i+1)=l.eraseIdx i:=(List.eraseIdx_eq_take_drop_succ l i).symm;rw [e];exact h.rise.sublist (List.eraseIdx_sublist _ _)
 ·rcases List.mem_append.1 hc with hc|hc
  ·exact h.may c (List.mem_of_mem_take hc)
  ·exact h.may c (List.mem_of_mem_drop hc)
def bK (kind:Int) (P:Nat) (l:List PC) (i gone:Nat) (c:PC):Int:=
 if zQ kind P c=false then 62
 else if 0≤jB l i c∨0≤yY l (i+gone) c then 63
 else if P<zW (zX l i gone c) then 61 else 0
theorem Wk.put {kind:Int} {P:Nat} {l:List PC} (h:Wk kind P l) {i gone:Nat} {c:PC} (hi:i+gone≤l.length) (h0:bK kind P l i gone c=0):Wk kind P (zX l i gone c):=by
 unfold bK at h0
 split at h0
 ·cases h0
 ·rename_i hm
  split at h0
  ·cases h0
  ·rename_i ho
   split at h0
   ·cases h0
   ·rename_i hz
    refine ⟨(cL h.rise hi).2 ⟨fun h1=> ?_,fun h1=> ?_⟩,fun d hd=> ?_,by omega⟩
    ·have:¬_:=fun e=>ho (.inl e)
     unfold jB at this;rw [dif_pos ⟨h1,by omega⟩] at this;omega
    ·have:¬_:=fun e=>ho (.inr e)
     unfold yY at this;rw [dif_pos h1] at this;omega
    ·unfold zX at hd;rcases List.mem_append.1 hd with hd|hd
     ·exact h.may d (List.mem_of_mem_take hd)
     ·rcases List.mem_cons.1 hd with rfl|hd
      ·simpa using hm
      ·exact h.may d (List.mem_of_mem_drop hd)
def vU (kind:Int) (P:Nat) (l:List PC) (i:Int) (gone:Nat) (c:PC):Int:=if i<0∨(l.length:Int)-gone<i then 64 else bK kind P l i.toNat gone c
def gI (kind:Int) (P:Nat) (l:List PC) (i:Int) (gone:Nat) (c:PC):List PC:=if vU kind P l i gone c=0 then zX l i.toNat gone c else l
theorem fD {kind:Int} {P:Nat} {l:List PC} {i:Int} {gone:Nat} {c:PC} (h:vU kind P l i gone c≠0):gI kind P l i gone c=l:=if_neg h
theorem dF {kind:Int} {P:Nat} {l:List PC} {i:Int} {gone:Nat} {c:PC} (h:vU kind P l i gone c=0):gI kind P l i gone c=zX l i.toNat gone c:=if_pos h
theorem nD {kind:Int} {P:Nat} {l:List PC} {i:Int} {gone:Nat} {c:PC} (h:i<0∨(l.length:Int)-gone<i):vU kind P l i gone c=64:=if_pos h
theorem lX {kind:Int} {P:Nat} {l:List PC} {i gone:Nat} {c:PC} (h:i+gone≤l.length):vU kind P l (i:Int) gone c=bK kind P l i gone c:=by
 unfold vU;rw [if_neg (by omega)];rfl
theorem dZ {kind:Int} {P:Nat} {l:List PC} {i gone:Nat} {c:PC} (h:bK kind P l i gone c=0):zQ kind P c=true:=by
 unfold bK at h
 split at h
 ·cases h
 ·rename_i hm;simpa using hm
theorem zFH {kind:Int} {P:Nat} {l:List PC} {i:Nat} {c:PC} (hi:i≤l.length):bK kind P l i 0 c=if zQ kind P c=false then 62 else if 0≤jB l i c∨0≤yY l i c then 63 else if (P:Int)<(zW l:Nat)-0+2+(z9 c:Int) then 61 else 0:=by
 unfold bK;rw [dP l c hi];simp only [Nat.add_zero]
 congr 2
 congr 1
 exact propext ⟨fun h=>by omega,fun h=>by omega⟩
theorem zF3 {kind:Int} {P:Nat} {l:List PC} {i:Nat} {c:PC} (hi:i<l.length):bK kind P l i 1 c=if zQ kind P c=false then 62 else if 0≤jB l i c∨0≤yY l (i+1) c then 63 else if (P:Int)<(zW l:Nat)-(2+(z9 l[i]:Int))+2+(z9 c:Int) then 61 else 0:=by
 unfold bK
 have:=cA l c hi
 congr 2
 congr 1
 exact propext ⟨fun h=>by omega,fun h=>by omega⟩
theorem Wk.ins {kind:Int} {P:Nat} {l:List PC} (h:Wk kind P l) (i:Int) (gone:Nat) (c:PC):Wk kind P (gI kind P l i gone c):=by
 by_cases hz:vU kind P l i gone c=0
 ·rw [dF hz]
  have hin:¬(i<0∨(l.length:Int)-gone<i):=fun e=>by rw [nD e] at hz;cases hz
  unfold vU at hz;rw [if_neg hin] at hz;exact h.put (by omega) hz
 ·rw [fD hz];exact h
theorem Wk.del {kind:Int} {P:Nat} {l:List PC} (h:Wk kind P l) (i:Int):Wk kind P (cT l i):=by
 unfold cT
 split
 ·exact h
 ·exact h.rem (by omega)
theorem Wk.len {kind:Int} {P:Nat} {l:List PC} (h:Wk kind P l) (hP:P≤65536):l.length≤32768:=by
 have:=h.size
 rw [yS] at this;omega
end Go.Proofs.YtfcnkpofcekmgaaGreat
