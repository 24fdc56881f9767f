/- Texts joined. -/
import Derived.Test.YtfcnkpofcekmgaaGreatNQ26
set_option maxRecDepth 100000
set_option maxHeartbeats 64000000
namespace Go.Proofs.YtfcnkpofcekmgaaGreat
open Go.RowKit
structure OwM (w:World) (base:Nat) (v:Value) (l:List CV):Prop where
 own:Own w base 43 5 v l.length (zF l)
 each:∀x∈l,OwB w 0 x.kv x.c.key∧OwB w 0 x.vv x.c.val
 rng:∀x∈l,yE x.c.kind∧yE x.c.page∧yE x.c.count
theorem OwM.nil (w:World) (base:Nat):OwM w base (.slice none 0 0) []:=⟨Own.nil _ _ _ _,by simp,by simp⟩
theorem OwM.rd {w:World} {base:Nat} {v:Value} {l:List CV} (h:OwM w base v l):RdCs w v l:=
 ⟨h.own.rd,fun x hx=>⟨(h.each x hx).1.rd,(h.each x hx).2.rd,(h.rng x hx).1,(h.rng x hx).2.1,(h.rng x hx).2.2⟩⟩
theorem OwM.below {w w':World} {base:Nat} {v:Value} {l:List CV} (h:OwM w base v l) (hb:Below w.heap.size w w'):OwM w' base v l:=
 ⟨Own.below' h.own hb (Nat.le_refl _),fun x hx=>⟨Own.below' (h.each x hx).1 hb (Nat.le_refl _),Own.below' (h.each x hx).2 hb (Nat.le_refl _)⟩,h.rng⟩
theorem OwM.snoc {w w1 w2:World} {base:Nat} {v v':Value} {l:List CV} {x:CV} (h:OwM w base v l) (hb:Below w.heap.size w w1) (hk:OwB w1 0 x.kv x.c.key) (hv:OwB w1 0 x.vv x.c.val)
 (hr:yE x.c.kind∧yE x.c.page∧yE x.c.count) (hg:w1.grownBy w2 v.ownBlock) (ho:Own w2 base 43 5 v' (l++ [x]).length (zF (l++ [x]))):OwM w2 base v' (l++ [x]):=by
 have h1:=h.below hb
 have key:∀{u:Value} {m:List UInt8},OwB w1 0 u m→OwB w2 0 u m:=fun {u m} hu=>Own.grown hu hg (fun g hg' e=>by
  obtain ⟨cs,hbk⟩:=Own.oblk h1.own e.symm
  exact OwB.ne_blk hu hbk (by decide) hg'.symm)
 refine ⟨ho,fun y hy=> ?_,fun y hy=> ?_⟩
 ·rcases List.mem_append.1 hy with hy|hy
  ·exact ⟨key (h1.each y hy).1,key (h1.each y hy).2⟩
  ·obtain rfl:=List.mem_singleton.1 hy;exact ⟨key hk,key hv⟩
 ·rcases List.mem_append.1 hy with hy|hy
  ·exact h1.rng y hy
  ·obtain rfl:=List.mem_singleton.1 hy;exact hr
theorem OwM.of_sep {w w':World} {v:Value} {l:List CV} (h:Sep w w' (zP 43 5 v l.length (zF l)::(zG l++ [yK w]))) (hr:RngC l):OwM w' w.heap.size v l:=
 ⟨Own.base_le h.head (fun g hg=>Nat.le_of_not_lt (h.far (A:=yK w) (by simp) g hg)),fun x hx=>⟨h.of_mem (E:=zB x.kv x.c.key) (List.mem_cons_of_mem _ (List.mem_append_left _ (List.mem_flatMap.2 ⟨x,hx,by simp⟩))),h.of_mem (E:=zB x.vv x.c.val) (List.mem_cons_of_mem _ (List.mem_append_left _ (List.mem_flatMap.2 ⟨x,hx,by simp⟩)))⟩,hr⟩
def zIC (w:World) (b:List UInt8) (e:Ending) (w':World):Prop:=
 Below w.heap.size w w'∧((∃(kind:Int) (l:List CV) (v:Value),y8 b kind (pcs l)∧e= .returned (.tuple #[.int .i64 kind,v,.int .i64 0])∧OwM w' w.heap.size v l∧Sep w w' [csE v l,yK w])∨
  ((∀kind l,¬y8 b kind l)∧e= .returned (.tuple #[.int .i64 0,.slice none 0 0,.int .i64 60])))
theorem aH (v:Value) (b:List UInt8) (w:World) (hv:RdB w v b):Calls Tryz.prog 60 #[v] w (zIC w b):=by
 obtain ⟨A,c,rfl,hm⟩:=hv.form;have hPa:=fun W=>fF (b.length:Int) W
 cases hp:zT (b.length:Int) with
 |false=>
  have HN:Hid (∀kind l,¬y8 b kind l):=Lib.hid fun kind l h=>by have:=h.1;rw [hp] at this;cases this
  rw [hp] at hPa;clear hp;go_enter Tryz.func60,Tryz.ntmps60;go_wp2_with (first|(go_at_call 107;refine (hPa _).mono ?_;rintro e w1 ⟨rfl,rfl⟩)|fail);refine bodyPost_ret (v:= .tuple #[.int .i64 0,.slice none 0 0,.int .i64 60]) ?_ rfl ?_
  ·simp [results,Tryz.results60,go_sem]
  ·exact ⟨Below.refl _ _,.inr ⟨HN.out,rfl⟩⟩
 |true=>
  obtain ⟨hP1,hP2⟩:=zZ hp
  have hb1:512≤b.length:=by omega
  have hb2:b.length≤65536:=by omega
  have HPG:=Lib.hid hp;have HNO:Hid (∀kind l,y8 b kind l→xX b (zL b 2 2)=some l∧vD b=kind):=Lib.hid fun kind l h=>aT h;rw [hp] at hPa;clear hp;have hN1:=kY (.slice A b.length c) b 2 2 2 2 rfl rfl (by omega) (by omega) (by omega) w hv;have hl1:=vO b 2 2;generalize zL b 2 2=n at*;go_enter Tryz.func60,Tryz.ntmps60;go_wp2_with (first|(go_at_call 107;refine (hPa _).mono ?_;rintro e w1 ⟨rfl,rfl⟩)|(go_at_call 108;refine hN1.mono ?_;rintro e w1 ⟨rfl,rfl⟩)|fail);clear hPa hN1
  go_loopw [7,8] (fun cv i wr=>∃(k:Nat) (l:List CV) (C:Option Addr) (cc:Nat),k≤n∧i= .int .i64 (k:Int)∧cv= .slice C k cc∧Hid (l.length=k)∧Hid (xX b k=some (pcs l))∧RngC l∧Sep w wr (zP 43 5 (.slice C k cc) k (zF l)::(zG l++ [yK w]))) (fun _ i _=>n-(intOf i).toNat)
  case atStart=>exact ⟨0,[],none,0,Nat.zero_le _,rfl,rfl,Lib.hid rfl,Lib.hid rfl,by simp [RngC],(Sep.start w).nilC⟩
  case round=>
   obtain ⟨k,l,C,cc,hk,rfl,rfl,HLK,HSL,hR,hS⟩:=hrel;have hB:Below w.heap.size w wr:=hS.belowOld (_v:=w) (by simp)
   have hSl:Sep w wr (zP 43 5 (.slice C k cc) l.length (zF l)::(zG l++ [yK w])):=by rw [HLK.out];exact hS
   have hO:=OwM.of_sep hSl hR;have HS:=Lib.hid hS;clear hS hSl;have hvr:=hv.below hB (Nat.le_refl _)
   by_cases hlt:k<n
   ·have ik:(k:Int)<(n:Int):=by omega
    have hstep:xX b (k+1)=if b.length<4+2*k+2 then none else match vM b (zL b (4+2*k) 2) b.length with
     |none=>none
     |some (c,_)=>some (pcs l++ [c]):=by first|(rw [xX,HSL.out];done)|(rw [xX,HSL.out];rfl)
    have HST:=Lib.hid hstep;clear hstep
    by_cases h1:b.length<4+2*k+2
    ·have HN:Hid (∀kind l,¬y8 b kind l):=Lib.hid fun kind l' h=>by
      have h2:=(HNO.out kind l' h).1
      have h3:xX b (k+1)=none:=by rw [HST.out,if_pos h1]
      rw [gJ h3 n (by omega)] at h2
      cases h2
     have i1:(b.length:Int)<4+2*(k:Int)+2:=by omega
     clear HST;go_wp2_with fail;refine bodyPost_ret (v:= .tuple #[.int .i64 0,.slice none 0 0,.int .i64 60]) ?_ rfl ?_
     ·simp [results,Tryz.results60,go_sem]
     ·exact ⟨hB,.inr ⟨HN.out,rfl⟩⟩
    ·have i1:¬(b.length:Int)<4+2*(k:Int)+2:=by omega
     have hN2:=kY (.slice A b.length c) b (4+2*k) 2 (4+2*(k:Int)) 2 (by omega) rfl (by omega) (by omega) (by omega) wr hvr;have hst:=HST.out;rw [if_neg h1] at hst;have hla:=vO b (4+2*k) 2;generalize zL b (4+2*k) 2=a at*;have hce:=iR (.slice A b.length c) b a wr hvr hb2 (by omega);have HST2:=Lib.hid hst;clear HST hst
     go_wp2_with (first
      |(go_at_call 108;refine hN2.mono ?_;rintro e w1 ⟨rfl,rfl⟩)
      |fail)
     refine hce.mono ?_;unfold zBP;rintro e w2 ⟨hw2,⟨hno,rfl⟩|⟨x,tn,hso,rfl,hok,hov,hr1,hr2,hr3,hsp⟩⟩
     ·have HN:Hid (∀kind l,¬y8 b kind l):=Lib.hid fun kind l' h=>by
       have h2:=(HNO.out kind l' h).1
       have h3:xX b (k+1)=none:=by rw [HST2.out,hno]
       rw [gJ h3 n (by omega)] at h2
       cases h2
      have hB2:=hB.trans (hw2.mono hB.size);clear hno hce HST2 hN2;go_wp2_with fail;refine bodyPost_ret (v:= .tuple #[.int .i64 0,.slice none 0 0,.int .i64 60]) ?_ rfl ?_
      ·simp [results,Tryz.results60,go_sem]
      ·exact ⟨hB2.alloc hB2.size _,.inr ⟨HN.out,rfl⟩⟩
     ·have hx:x.ok w2:=⟨hok.rd,hov.rd,hr1,hr2,hr3⟩;have HS2:Hid (xX b (k+1)=some (pcs (l++ [x]))):=Lib.hid (by rw [HST2.out,hso];simp [pcs]);obtain ⟨A2,a2,B2,b2,key,ck,val,pg,ct,rfl,_,_⟩:=CV.form hx;have hB2:=hB.trans (hw2.mono hB.size);have hAA:Below w2.heap.size w2 ((w2.alloc (.cells #[.slice A2 key.length a2,.int .i64 ck,.slice B2 val.length b2,.int .i64 pg,.int .i64 ct] 43)).alloc (.cells #[.slice A2 key.length a2,.int .i64 ck,.slice B2 val.length b2,.int .i64 pg,.int .i64 ct] 43)):=((Below.refl _ _).alloc (Nat.le_refl _) _).alloc (by simp) _;have hsrc:=Rd.five (w2.alloc (.cells #[.slice A2 key.length a2,.int .i64 ck,.slice B2 val.length b2,.int .i64 pg,.int .i64 ct] 43)) (.slice A2 key.length a2) (.int .i64 ck) (.slice B2 val.length b2) (.int .i64 pg) (.int .i64 ct) 43;rw [World.size_alloc] at hsrc;have hsrc':Rd ((w2.alloc (.cells #[.slice A2 key.length a2,.int .i64 ck,.slice B2 val.length b2,.int .i64 pg,.int .i64 ct] 43)).alloc (.cells #[.slice A2 key.length a2,.int .i64 ck,.slice B2 val.length b2,.int .i64 pg,.int .i64 ct] 43)) 5 (.slice (some ⟨w2.heap.size+1,0,none⟩) 1 1) ([(⟨.slice A2 key.length a2,.slice B2 val.length b2,⟨key,ck,val,pg,ct⟩⟩:CV)]).length (zF [(⟨.slice A2 key.length a2,.slice B2 val.length b2,⟨key,ck,val,pg,ct⟩⟩:CV)]):=hsrc;have hone:=vB (w:=w2) (l:= [(⟨.slice A2 key.length a2,.slice B2 val.length b2,⟨key,ck,val,pg,ct⟩⟩:CV)]) (fun y hy=>by rw [List.mem_singleton] at hy;subst hy;exact hx);have hAB:=hw2.trans (hAA.mono hw2.size)
      have hSp:=((Sep.lift2 hsp (by simp) HS.out).alloc 43 [.slice A2 key.length a2,.int .i64 ck,.slice B2 val.length b2,.int .i64 pg,.int .i64 ct]).alloc 43 [.slice A2 key.length a2,.int .i64 ck,.slice B2 val.length b2,.int .i64 pg,.int .i64 ct];have HSp:=Lib.hid hSp;clear hSp hsp;have hok3:=OwB.below2 hok hAA;have hov3:=OwB.below2 hov hAA;have hown3:=(hO.below hAB).own;have hl3:=HLK.out;have hcz:w.heap.size≤((w2.alloc (.cells #[.slice A2 key.length a2,.int .i64 ck,.slice B2 val.length b2,.int .i64 pg,.int .i64 ct] 43)).alloc (.cells #[.slice A2 key.length a2,.int .i64 ck,.slice B2 val.length b2,.int .i64 pg,.int .i64 ct] 43)).heap.size:=Nat.le_trans hB2.size hAA.size;have HX:=Lib.hid hx;have HSO:=Lib.hid hso;have HL3:=Lib.hid hl3;clear hso hce HST2 hN2 hsrc hx hl3 hok hov;unfold zJ
      go_upto_region 8 with (first
       |(at_builtin;refine yP rfl (.tmp 44) (.tmp 46) rfl w.heap.size _ l rfl hown3 _ _ rfl hsrc' hone (by rw [HL3.out];simp only [List.length_singleton];omega) hcz ?_;intro v5 w5 ho5 hg5 hk5;obtain ⟨V5,e5,rfl⟩:=Own.slice ho5)
       |fail)
      have hS5:=(HSp.out.sw [_,_,_,_]).appC (Own.low ho5 (Nat.zero_le _)) hg5 (by rcases hk5 with e|e;exact .inl e;exact .inr ⟨_,e,Nat.le_refl _⟩);have hS6:=(Sep.snocC' (y:=⟨.slice A2 key.length a2,.slice B2 val.length b2,⟨key,ck,val,pg,ct⟩⟩) (L:= [yK w]) (Sep.pick (L:= [_,_,_,_,_]) [2,0,3,4] (by decide) rfl hS5)).tail
      have hR6:RngC (l++ [(⟨.slice A2 key.length a2,.slice B2 val.length b2,⟨key,ck,val,pg,ct⟩⟩:CV)]):=fun y hy=>by
       rcases List.mem_append.1 hy with hy|hy
       ·exact hR y hy
       ·obtain rfl:=List.mem_singleton.1 hy;exact ⟨hr1,hr2,hr3⟩
      have hb5:Below w.heap.size w w5:=(hB2.trans (hAA.mono hB2.size)).grown hg5 hcz (fun j hj=>(Own.lt hown3 j hj).1)
      have hl5:(l++ [(⟨.slice A2 key.length a2,.slice B2 val.length b2,⟨key,ck,val,pg,ct⟩⟩:CV)]).length=k+1:=by rw [List.length_append,HL3.out];rfl
      rw [hl5] at hS6;have HL5:=Lib.hid hl5
      have hl6:l.length+1=k+1:=by rw [HL3.out]
      try rw [hl6]
      clear hl6;have HS6:=Lib.hid hS6;clear hl5 ho5 hg5 hk5 hown3 hok3 hov3 hsrc' hone hS5 hS6 HSp;go_wp2_with fail;exact ⟨⟨k+1,_,V5,e5,by omega,by go_num,rfl,HL5,HS2,hR6,HS6.out⟩,by simp [intOf];omega⟩
   ·obtain rfl:k=n:=by omega
    obtain ⟨kb,hkb⟩:∃kb,b[0]? =some kb:=⟨_,List.getElem?_eq_getElem (by omega)⟩
    have hgd:vD b=(kb.toNat:Int):=by unfold vD;rw [List.getD,hkb];rfl
    have HKF:=Lib.hid hgd;obtain ⟨ad,rfl,hcb⟩:=hvr.at_ (j:=0) (by omega)
    have hcb':wr.cell? ad=some (.int .u8 (kb.toNat:Int)):=by
     rw [List.getElem?_eq_getElem (by omega)] at hkb;rw [←Option.some.inj hkb]
     have:=hcb
     rw [show ad.add 0=ad from rfl] at this;exact this
    have hkl:=kb.toNat_lt
    have hkw:IntKind.i64.wrap ((kb.toNat:Nat):Int)=((kb.toNat:Nat):Int):=by rw [IntKind.wrap_i64];omega
    have j1:(0:Int)<(b.length:Int):=by omega
    have j2:0<b.length:=by omega
    have hE:=zHW (kb.toNat:Int) _ l (b.length:Int) wr hO.rd (by rw [HLK.out];omega)
    have HUN:Hid (∀kind l',y8 b kind l'→kind=(kb.toNat:Int)∧l'=pcs l):=Lib.hid fun kind l' h=>by
     obtain ⟨h1,h2⟩:=HNO.out kind l' h;rw [HSL.out] at h1;injection h1 with h1;exact ⟨by rw [←h2,HKF.out],h1.symm⟩
    clear hcb hkb hgd
    go_upto_region 16 with (first
     |(go_at_call 63;refine hE.mono ?_;rintro e w2 ⟨u,rfl,hou,hb3⟩)
     |fail)
    have hB3:=hB.trans (hb3.mono hB.size);have hO3:=hO.below hb3
    have hSl:Sep w w2 (zP 43 5 (.slice C k cc) l.length (zF l)::(zG l++ [yK w])):=by rw [HLK.out];exact HS.out.below hb3
    have HSP:=Lib.hid (Sep.pack (D:=zP 43 5 (.slice C k cc) l.length (zF l)::zG l) hSl);clear hSl;have hcb3:=(hb3.cell (World.block_lt_of_cell? wr _ hcb')).trans hcb';have s1:=yM hou.rd;have s2:=yM (hvr.below hb3 (Nat.le_refl _));have HPL:=Lib.hid (zE9 (kind:=(kb.toNat:Int)) (l:=pcs l) (b:=b));clear hE hou hb3 hcb';generalize uC (kb.toNat:Int) (pcs l) (b.length:Int)=z at*;generalize eM (kb.toNat:Int) (pcs l) (b.length:Int)=el at*
    by_cases hz:z=0
    ·subst hz;rcases Bool.eq_false_or_eq_true (el==b) with hq|hq
     ·have HY:Hid (y8 b (kb.toNat:Int) (pcs l)):=Lib.hid (HPL.out.2 ⟨rfl,eq_of_beq hq⟩)
      have hqn:(el !=b)=false:=by rw [bne,hq];rfl
      go_wp2_with fail;refine bodyPost_ret (v:= .tuple #[.int .i64 (kb.toNat:Int),.slice C k cc,.int .i64 0]) ?_ rfl ?_
      ·simp [results,Tryz.results60,go_sem]
      ·exact ⟨hB3,.inl ⟨_,l,_,HY.out,rfl,hO3,HSP.out⟩⟩
     ·have HN:Hid (∀kind l,¬y8 b kind l):=Lib.hid fun kind l' h=>by
       obtain ⟨rfl,rfl⟩:=HUN.out kind l' h
       have:=(HPL.out.1 h).2
       rw [this] at hq;simp at hq
      have hqn:(el !=b)=true:=by rw [bne,hq];rfl
      go_wp2_with fail;refine bodyPost_ret (v:= .tuple #[.int .i64 0,.slice none 0 0,.int .i64 60]) ?_ rfl ?_
      ·simp [results,Tryz.results60,go_sem]
      ·exact ⟨hB3,.inr ⟨HN.out,rfl⟩⟩
    ·have HN:Hid (∀kind l,¬y8 b kind l):=Lib.hid fun kind l' h=>by
      obtain ⟨rfl,rfl⟩:=HUN.out kind l' h;exact hz (HPL.out.1 h).1
     have hzn:(z !=0)=true:=by simp only [bne,beq_eq_false_iff_ne.2 hz];rfl
     clear hz s1 s2;go_wp2_with fail;refine bodyPost_ret (v:= .tuple #[.int .i64 0,.slice none 0 0,.int .i64 60]) ?_ rfl ?_
     ·simp [results,Tryz.results60,go_sem]
     ·exact ⟨hB3,.inr ⟨HN.out,rfl⟩⟩
def yJ (T:TypeId) (bb:Nat) (rest:List Value) (v:Value) (xs:List (Value×List UInt8)):Ent:=
 ⟨fun g=>g=bb∨v.ownBlock=some g∨InL (xs.map Prod.fst) g,fun w=>BookAt w 0 bb v (xs.map Prod.fst) (bkF xs) T rest,fun h k=>
  ⟨k.blk.of_heap (h bb (.inl rfl)),Own.heap k.own (fun g hg=>h g (.inr (.inl hg))),fun j u hj=>Own.heap (k.each j u hj) (fun g hg=>h g (.inr (.inr ⟨j,u,hj,hg⟩))),k.apart⟩⟩
theorem tJ {T:TypeId} {rest:List Value} (hT1:5≠T) (hT2:41≠T) {w0 w:World} {L:List Ent} {bb:Nat} {v u:Value} {xs:List (Value×List UInt8)} {l:List UInt8} (h:Sep w0 w (yJ T bb rest v xs::zB u l::L)) (hn:xs.length≤100000000):
 Calls Tryz.prog 99 #[.pointer (some ⟨bb,0,none⟩),u] w fun e w'=>(∃x,e= .returned x)∧∃v',Sep w0 w' (yJ T bb rest v' (xs++ [(u,l)])::L):=by
 have hB:BookAt w 0 bb v (xs.map Prod.fst) (bkF xs) T rest:=h.head;have hU:OwB w 0 u l:=h.tail.head;refine (zEP hT1 hT2 w 0 bb v _ _ u l hB (Nat.zero_le _) (by simpa using hn) hU (fun j y hj g hg hy=>h.far (List.mem_cons_self ..) g (.inr (.inr ⟨j,y,hj,hy⟩)) hg)).mono ?_;rintro e w' ⟨hx,v',hb',ht,hv'⟩;refine ⟨hx,v',h.join.upd (ht.mono fun b hb=> .inl (hb.elim .inl (fun h=> .inr (.inl h)))) (E':=yJ T bb rest v' (xs++ [(u,l)])) ?_ (fun g hg=> ?_)⟩
 ·refine ⟨hb'.blk,by simpa using hb'.own,fun j y hj=> ?_,by simpa using hb'.apart⟩;rw [List.map_append] at hj;have h1:=hb'.each j y hj;have hlt:=(List.getElem?_eq_some_iff.1 hj).1;simp only [List.length_append,List.length_map,List.map_cons,List.map_nil,List.length_singleton] at hlt
  have e1:bkF (xs++ [(u,l)]) j=if j=(xs.map Prod.fst).length then l else bkF xs j:=by
   unfold bkF;rw [List.length_map]
   by_cases hj':j=xs.length
   ·subst hj';simp [List.getD]
   ·rw [if_neg hj'];simp [List.getD,List.getElem?_append_left (show j<xs.length by omega)]
  rw [e1];exact h1
 ·have hsz:=ht.size;rcases hg with rfl|hg|⟨j,y,hj,hy⟩
  ·exact ⟨.inl (.inl (.inl rfl)),hb'.blk.lt⟩
  ·refine ⟨?_,(Own.lt hb'.own g hg).2⟩;rcases hv' g hg with h1|h1
   ·exact .inl (.inl (.inr (.inl h1)))
   ·exact .inr h1
  ·refine ⟨.inl ?_,(Own.lt (hb'.each j y (by simpa using hj)) g hy).2⟩;rw [List.map_append,List.getElem?_append] at hj
   split at hj
   ·exact .inl (.inr (.inr ⟨j,y,hj,hy⟩))
   ·right
    rw [List.map_cons,List.map_nil,List.getElem?_singleton] at hj
    split at hj
    ·injection hj with hj;rw [←hj] at hy;exact hy
    ·cases hj
def lnF (ls:List (Value×Nat)) (j:Nat):Nat:=(ls.getD j (.slice none 0 0,0)).2
structure ListsAt (w:World) (lv:Value) (ls:List (Value×Nat)):Prop where
 own:Own w 0 32 1 lv (ls.map Prod.fst).length (ls.map Prod.fst)
 each:∀(j:Nat) (u:Value),(ls.map Prod.fst)[j]? =some u→OwQ w u (lnF ls j) 0 0
 apart:ApartL (ls.map Prod.fst)
theorem OwQ.heap {w w':World} {u:Value} {n q:Nat} {m:Int} (h:OwQ w u n m q) (hk:∀g,u.ownBlock=some g→w'.heap[g]? =w.heap[g]?):OwQ w' u n m q:=by
 obtain ⟨xs,h1,h2⟩:=h;exact ⟨xs,h1.heap hk,h2⟩
theorem OwQ.any {w:World} {u:Value} {n:Nat} {m:Int} (h:OwQ w u n m 0) (m':Int):OwQ w u n m' 0:=by
 obtain ⟨xs,h1,h2⟩:=h;exact ⟨xs,h1,fun k hk=>absurd hk (Nat.not_lt_zero _)⟩
def xR (lv:Value) (ls:List (Value×Nat)):Ent:=
 ⟨fun g=>lv.ownBlock=some g∨InL (ls.map Prod.fst) g,fun w=>ListsAt w lv ls,fun h k=>
  ⟨Own.heap k.own (fun g hg=>h g (.inl hg)),fun j u hj=>OwQ.heap (k.each j u hj) (fun g hg=>h g (.inr ⟨j,u,hj,hg⟩)),k.apart⟩⟩
theorem nS {w0 w:World} {L:List Ent} {bb:Nat} {v:Value} {rest:List Value} {xs:List (Value×List UInt8)} {x:CV} (h:Sep w0 w (yJ 40 bb rest v xs::zB x.kv x.c.key::zB x.vv x.c.val::L)) (hn:xs.length≤10000000):
 Calls Tryz.prog 53 #[.pointer (some ⟨bb,0,none⟩),zJ x] w fun e w'=>(∃y,e= .returned y)∧∃v',Sep w0 w' (yJ 40 bb rest v' (xs++ [(x.kv,x.c.key)]++ [(x.vv,x.c.val)])::L):=by
 obtain ⟨kv,vv,key,ck,val,pg,ct⟩:=x;have hS1:=h.alloc 43 [kv,.int .i64 ck,vv,.int .i64 pg,.int .i64 ct];have hS2:Sep w0 _ (yJ 40 bb rest v xs::zB kv key::(z7 w.heap.size 43 [kv,.int .i64 ck,vv,.int .i64 pg,.int .i64 ct]::zB vv val::L)):=Sep.sn [_] hS1.sw1;have hlt:=hS1.blk.lt;unfold zJ;simp only at hS2⊢;clear h hS1;have c0:=hS2.tail.tail.blk.cell' (j:=0) rfl;go_enter Tryz.func53,Tryz.ntmps53;go_upto_region 1 with (fail);generalize w.alloc (.cells #[kv,.int .i64 ck,vv,.int .i64 pg,.int .i64 ct] 43)=w1 at*;have hT:=fun nq=>tJ (T:=40) (by decide) (by decide) (hS2.drewN nq) (by omega);have HT:=Lib.hid hT;clear hT;refine qX 5 (by kernel_rfl) (by kernel_rfl) ?_;simp only [List.take_succ_cons,List.take_zero,List.drop_succ_cons,List.drop_zero]
 repeat (quiet_step (fail))
 refine wpQuiet_nil ?_;rintro _ ⟨nq,rfl⟩
 go_upto_region 2 with (first
  |(go_at_call 99;refine (HT.out nq).mono ?_;rintro e w3 ⟨⟨_,rfl⟩,v3,hS3⟩)
  |fail)
 clear HT hS2 c0;have c2:=hS3.tail.blk.cell' (j:=2) rfl;have hS4:Sep w0 w3 (yJ 40 bb rest v3 (xs++ [(kv,key)])::zB vv val::(z7 w.heap.size 43 [kv,.int .i64 ck,vv,.int .i64 pg,.int .i64 ct]::L)):=Sep.sn [_] hS3;have hT:=fun nq=>tJ (T:=40) (by decide) (by decide) (hS4.drewN nq) (by simp;omega);have HT:=Lib.hid hT;clear hT hS3;refine qX 5 (by kernel_rfl) (by kernel_rfl) ?_;simp only [List.take_succ_cons,List.take_zero,List.drop_succ_cons,List.drop_zero]
 repeat (quiet_step (fail))
 refine wpQuiet_nil ?_;rintro _ ⟨nq2,rfl⟩
 go_wp2_with (first
  |(go_at_call 99;refine (HT.out nq2).mono ?_;rintro e w5 ⟨⟨_,rfl⟩,v5,hS5⟩)
  |fail)
 refine bodyPost_end (results_none rfl _ _ _) rfl ?_;exact ⟨⟨_,rfl⟩,v5,(Sep.sw1 hS5).tail⟩
theorem zKK {w:World} {b n c:Nat} {A:Option Addr} {l:List CV} (h:Own w b 43 5 (.slice A n c) l.length (zF l)) (hn:n=l.length) {k:Nat} (hk:k<l.length):
 ∃g,A=some ⟨g,0,none⟩∧w.cell? ⟨g,k*5,none⟩=some l[k].kv∧w.cell? ⟨g,k*5+1,none⟩=some (.int .i64 l[k].c.kind)∧w.cell? ⟨g,k*5+2,none⟩=some l[k].vv∧w.cell? ⟨g,k*5+3,none⟩=some (.int .i64 l[k].c.page)∧w.cell? ⟨g,k*5+4,none⟩=some (.int .i64 l[k].c.count):=by
 subst hn;obtain ⟨g,rfl⟩:=h.some' (by omega);refine ⟨g,rfl,h.cells (k*5) _ (vN l k 0 hk (by omega)),h.cells (k*5+1) _ (vN l k 1 hk (by omega)),h.cells (k*5+2) _ (vN l k 2 hk (by omega)),h.cells (k*5+3) _ (vN l k 3 hk (by omega)),h.cells (k*5+4) _ (vN l k 4 hk (by omega))⟩
theorem ApartL.snoc {vs:List Value} {u:Value} (h:ApartL vs) (hu:∀g,u.ownBlock=some g→¬InL vs g):ApartL (vs++ [u]):=by
 have split:∀(i:Nat) (y:Value),(vs++ [u])[i]? =some y→(i<vs.length∧vs[i]? =some y)∨(i=vs.length∧y=u):=fun i y hi=>by
  rcases Nat.lt_or_ge i vs.length with hlt|hge
  ·rw [List.getElem?_append_left hlt] at hi;exact .inl ⟨hlt,hi⟩
  ·rw [List.getElem?_append_right hge] at hi
   have h0:i=vs.length:=by
    have:=(List.getElem?_eq_some_iff.mp hi).1
    simp at this;omega
   subst h0;simp at hi;exact .inr ⟨rfl,hi.symm⟩
 intro i j y y' hij hi hj g hg e;rcases split i y hi with ⟨h1,h2⟩|⟨h1,rfl⟩
 ·rcases split j y' hj with ⟨h3,h4⟩|⟨h3,rfl⟩
  ·exact h i j y y' hij h2 h4 g hg e
  ·exact hu g e.symm ⟨i,y,h2,hg⟩
 ·rcases split j y' hj with ⟨h3,h4⟩|⟨h3,rfl⟩
  ·exact hu g hg ⟨j,y',h4,e.symm⟩
  ·omega
theorem Sep.lists {w0 w w':World} {L:List Ent} {lv lv' u:Value} {ls:List (Value×Nat)} {n:Nat} {xs:List Value} (h:Sep w0 w (xR lv ls::zP 43 5 u n xs::L))
 (ho:Own w' 0 32 1 lv' ((ls.map Prod.fst).length+1) (ls.map Prod.fst++ [u])) (hg:w.grownBy w' lv.ownBlock) (hk:lv'.ownBlock=lv.ownBlock∨∃s,w.heap.size≤s∧lv'.ownBlock=some s):Sep w0 w' (xR lv' (ls++ [(u,n)])::L):=by
 have hL:ListsAt w lv ls:=h.head;have hU:Own w 0 43 5 u n xs:=h.tail.head
 have hTT:43≠32:=by decide
 have hsz:=hg.size
 have hU':Own w' 0 43 5 u n xs:=hU.grown hg (fun g hg' e=>by
  obtain ⟨cs,h1⟩:=Own.oblk hL.own e.symm;obtain ⟨cs2,h2⟩:=hU.oblk hg'
  exact h2.ne h1 hTT rfl)
 have hE':∀(j:Nat) (y:Value),(ls.map Prod.fst)[j]? =some y→OwQ w' y (lnF ls j) 0 0:=fun j y hj=>(hL.each j y hj).grown hg (fun g hg'=>(hL.each j y hj).ne_own hL.own hTT g hg');refine h.join.upd (E':=xR lv' (ls++ [(u,n)])) ((Turn.of_grown hg (fun _ e=>e)).mono fun b hb=> .inl (.inl hb)) ⟨by simpa using ho,fun j y hj=> ?_,?_⟩ (fun g hg'=> ?_)
 ·rw [List.map_append,List.map_cons,List.map_nil] at hj;rcases Nat.lt_or_ge j (ls.map Prod.fst).length with hlt|hge
  ·rw [List.getElem?_append_left hlt] at hj
   have e1:lnF (ls++ [(u,n)]) j=lnF ls j:=by
    rw [List.length_map] at hlt;simp [lnF,List.getD,List.getElem?_append_left hlt]
   rw [e1];exact hE' j y hj
  ·rw [List.getElem?_append_right hge] at hj
   have h0:j=ls.length:=by
    have:=(List.getElem?_eq_some_iff.mp hj).1
    simp at this hge;omega
   subst h0;simp at hj;subst hj
   have e1:lnF (ls++ [(u,n)]) ls.length=n:=by simp [lnF,List.getD]
   rw [e1];exact ⟨xs,hU',fun k hk=>absurd hk (Nat.not_lt_zero _)⟩
 ·rw [List.map_append,List.map_cons,List.map_nil];exact hL.apart.snoc (fun g hg' hin=>h.far (List.mem_cons_self ..) g (.inr hin) hg')
 ·rcases hg' with hg'|⟨j,y,hj,hy⟩
  ·refine ⟨?_,(Own.lt ho g hg').2⟩;rcases hk with e|⟨s,hs,e⟩
   ·exact .inl (.inl (.inl (e.symm.trans hg':lv.ownBlock=some g)))
   ·right
    have:=e.symm.trans hg'
    injection this with this;omega
  ·rw [List.map_append,List.map_cons,List.map_nil,List.getElem?_append] at hj
   split at hj
   ·exact ⟨.inl (.inl (.inr ⟨j,y,hj,hy⟩)),(hE' j y hj).lt g hy⟩
   ·rw [List.getElem?_singleton] at hj
    split at hj
    ·injection hj with hj;rw [←hj] at hy;exact ⟨.inl (.inr hy),(Own.lt hU' g hy).2⟩
    ·cases hj
theorem eO {T:TypeId} {w0 w:World} {L:List Ent} {bb:Nat} {v lv lv':Value} {xs:List (Value×List UInt8)} (hT1:5≠T) (hT2:41≠T) (h:Sep w0 w (yJ T bb [lv] v xs::L)):Sep w0 (w.setCell ⟨bb,1,none⟩ lv') (yJ T bb [lv'] v xs::L):=by
 have hB:BookAt w 0 bb v (xs.map Prod.fst) (bkF xs) T [lv]:=h.head;have hg:=zY w ⟨bb,1,none⟩ lv';refine h.upd (E':=yJ T bb [lv'] v xs) ((Turn.of_grown hg (fun k e=>(Option.some.inj e).symm)).mono fun b hb=> .inl hb) ⟨by have:=hB.blk.set 1 lv';simpa using this,hB.own.grown hg (fun g hg' e=>hB.own.ne_Tb hB.blk hT2 (by rw [hg',e])),fun j u hj=>Own.grown (hB.each j u hj) hg (fun g hg' e=>OwB.ne_blk (hB.each j u hj) hB.blk hT1 (by rw [hg',e])),hB.apart⟩ (fun g hg'=>⟨.inl hg',?_⟩);have h1:=h.lt g hg';have h2:=hg.size;omega
theorem iM {w0 w:World} {L:List Ent} {bb:Nat} {v lv u:Value} {xs:List (Value×List UInt8)} {ls:List (Value×Nat)} {l:List CV} (h:Sep w0 w (yJ 40 bb [lv] v xs::xR lv ls::zP 43 5 u l.length (zF l)::(zG l++L)))
 (hn:xs.length+2*l.length≤8000000) (hn2:ls.length≤1000000):
 Calls Tryz.prog 23 #[.pointer (some ⟨bb,0,none⟩),u] w fun e w'=>(∃y,e= .returned y)∧∃v' lv',Sep w0 w' (yJ 40 bb [lv'] v' (xs++vI l)::xR lv' (ls++ [(u,l.length)])::L):=by
 have hU0:Own w 0 43 5 u l.length (zF l):=h.tail.tail.head;obtain ⟨A,c,rfl⟩:=hU0.slice
 have hnl:l.length≤4000000:=by omega
 clear hU0;go_enter Tryz.func23,Tryz.ntmps23;go_wp2_with fail
 go_loopw [4] (fun i wr=>∃(k:Nat) (v':Value),k≤l.length∧i= .int .i64 (k:Int)∧Sep w0 wr (yJ 40 bb [lv] v' (xs++vI (l.take k))::xR lv ls::zP 43 5 (.slice A l.length c) l.length (zF l)::(zG (l.drop k)++L))) (fun i _=>l.length-(intOf i).toNat)
 case atStart=>exact ⟨0,v,Nat.zero_le _,rfl,by simpa [vI] using h⟩
 case round=>
  clear h;obtain ⟨k,v',hk,rfl,h⟩:=hrel
  by_cases hlt:k<l.length
  ·have ik:(k:Int)<(l.length:Int):=by omega
   obtain ⟨g,rfl,c0,c1,c2,c3,c4⟩:=zKK (show Own wr 0 43 5 (.slice A l.length c) l.length (zF l) from h.tail.tail.head) rfl hlt;rw [gY l hlt] at h;have hS:=Sep.sn [_,_,_] (Sep.sn [_,_] h)
   have hpl:(vI (l.take k)).length≤2*l.length:=by rw [cD,List.length_take];omega
   have hT:=nS (x:=l[k]) (Sep.sn [_] hS) (by rw [List.length_append];omega);rw [List.append_assoc xs,List.append_assoc xs,←oR l hlt] at hT;unfold zJ at hT;clear hS hpl h
   go_upto_region 2 with (first
    |(go_at_call 53;refine hT.mono ?_;rintro e w3 ⟨⟨_,rfl⟩,v3,hS3⟩)
    |fail)
   clear hT c0 c1 c2 c3 c4;go_wp2_with fail;exact ⟨⟨k+1,v3,by omega,by go_num,hS3⟩,by simp [intOf];omega⟩
  ·obtain rfl:k=l.length:=by omega
   rw [List.take_length,List.drop_length] at h;have h:Sep w0 wr (yJ 40 bb [lv] v' (xs++vI l)::xR lv ls::zP 43 5 (.slice A l.length c) l.length (zF l)::L):=h;have hB:BookAt wr 0 bb v' ((xs++vI l).map Prod.fst) (bkF (xs++vI l)) 40 [lv]:=h.head;have hblk:=hB.blk;have hown:Own wr 0 32 1 lv (ls.map Prod.fst).length (ls.map Prod.fst):=(show ListsAt wr lv ls from h.tail.head).own;obtain ⟨LA,lc,rfl⟩:=hown.slice;have c1:=hblk.cell' (j:=1) rfl
   have hlm:(ls.map Prod.fst).length≤1000000:=by rw [List.length_map];exact hn2
   have hTB:32≠40:=by decide
   have HS:=Lib.hid h;clear h hB;generalize hvs:ls.map Prod.fst=vs at*;have HVS:=Lib.hid hvs;clear hvs
   go_wp2_with (first
    |(at_builtin;refine mX rfl (.tmp 21) (.tmp 23) rfl 0 _ vs rfl hown (.slice A l.length c) rfl 32 rfl (by omega) (Nat.zero_le _) ?_;intro lv4 w4 ho4 hg4 hk4;obtain ⟨LB,ld,rfl⟩:=Own.slice ho4;have hb4:=hblk.grown hg4 (fun e=>hown.ne_Tb hblk hTB e);have d1:=hb4.cell' (j:=1) rfl;have f1:=hb4.frozen (j:=1) (by simp))
    |fail)
   refine bodyPost_end (results_none rfl _ _ _) rfl ?_;have hS:=(Sep.sw1 HS.out);have hL:ls.map Prod.fst=vs:=HVS.out;subst hL;have hS4:=Sep.lists (h:=hS.sn [_]) (lv':= .slice LB ((ls.map Prod.fst).length+1) ld) ho4 hg4 (hk4.imp id (fun e=>⟨_,by omega,e⟩));exact ⟨⟨_,rfl⟩,v',_,eO (by decide) (by decide) hS4.sw1⟩
theorem zE1 {w0 w:World} {L:List Ent} {v:Value} {b:List UInt8} (h:Sep w0 w L) (hv:RdB w v b):
 Calls Tryz.prog 60 #[v] w fun e w'=>∃(kind:Int) (l:List CV) (u:Value) (z:Int),e= .returned (.tuple #[.int .i64 kind,u,.int .i64 z])∧DecR b kind (pcs l) z∧RngC l∧Sep w0 w' (csE u l::L):=by
 refine (aH v b w hv).mono ?_;rintro e w' ⟨hb,⟨kind,l,u,hy,rfl,hO,hS⟩|⟨hn,rfl⟩⟩
 ·exact ⟨kind,l,u,0,rfl,.inl ⟨hy,rfl⟩,hO.rng,Sep.lift1 hS (by simp) h⟩
 ·exact ⟨0,[],_,60,rfl,.inr ⟨hn,rfl,rfl,rfl⟩,by simp [RngC],(h.cells hb (OwCs.nil w' w.heap.size)).pack (D:=zP 43 5 (.slice none 0 0) 0 (zF [])::zG [])⟩
theorem cW {w0 w:World} {L:List Ent} {bb:Nat} {v lv u:Value} {xs:List (Value×List UInt8)} {ls:List (Value×Nat)} {l:List CV} (h:Sep w0 w (yJ 40 bb [lv] v xs::xR lv ls::csE u l::L))
 (hn:xs.length+2*l.length≤8000000) (hn2:ls.length≤1000000):
 Calls Tryz.prog 23 #[.pointer (some ⟨bb,0,none⟩),u] w fun e w'=>(∃y,e= .returned y)∧∃v' lv',Sep w0 w' (yJ 40 bb [lv'] v' (xs++vI l)::xR lv' (ls++ [(u,l.length)])::L):=by
 have h1:=(h.sw [_,_]).unpack;refine iM (v:=v) (lv:=lv) (h1.perm ?_) hn hn2
 show ((zP 43 5 u l.length (zF l)::zG l)++([yJ 40 bb [lv] v xs,xR lv ls]++L)).Perm ([yJ 40 bb [lv] v xs,xR lv ls]++((zP 43 5 u l.length (zF l)::zG l)++L))
 rw [←List.append_assoc,←List.append_assoc];exact List.Perm.append_right _ List.perm_append_comm
def Rq1 (w0 w:World) (L:List Ent) (r P:Nat) (kind:Int) (s:KP):Prop:=
 ∃u l,pcs l=s.l∧RngC l∧Sep w0 w (rpE r kind P u l::L)
abbrev Rq2:=RkP
section
variable {w0 w w':World} {L:List Ent} {r P:Nat} {kind:Int} {s:KP}
theorem Rq1.sep (h:Rq1 w0 w L r P kind s):∃E,Sep w0 w (E::L)∧∀(W:World) (M:List Ent),Sep w0 W (E::M)→Rq1 w0 W M r P kind s:=by
 obtain ⟨u,l,h1,h2,h3⟩:=h;exact ⟨_,h3,fun _ _ h=>⟨u,l,h1,h2,h⟩⟩
theorem Rq2.sep (h:Rq2 w0 w L r P kind s):∃E,Sep w0 w (E::L)∧∀(W:World) (M:List Ent),Sep w0 W (E::M)→Rq2 w0 W M r P kind s:=RkP.sep h
theorem zBS {u:Value} {l:List CV} (h:RpAt w r kind P u l):Calls Tryz.prog 100 #[.pointer (some ⟨r,0,none⟩)] w fun e w'=>e= .returned (.int .i64 kind)∧w=w':=by
 obtain ⟨c0,c1,c2⟩:=xC h.blk;go_enter Tryz.func100,Tryz.ntmps100;go_wp2_with fail;go_ret;exact ⟨rfl,rfl⟩
theorem zIH (hS:Rq1 w0 w L r P kind s):Calls Tryz.prog 100 #[.pointer (some ⟨r,0,none⟩)] w fun e w'=>e= .returned (.int .i64 kind)∧w=w':=by
 obtain ⟨u,l,h1,h2,h3⟩:=hS;exact zBS (h3.rpAt h2)
theorem zJM (hS:Rq2 w0 w L r P kind s):Calls Tryz.prog 101 #[.pointer (some ⟨r,0,none⟩)] w fun e w'=>e= .returned (.int .i64 kind)∧w=w':=by
 obtain ⟨u,pv,l,h1,h2,h3⟩:=hS;exact u9 (h3.rkAt h2)
theorem zIM (hS:Rq1 w0 w L r P kind s):Calls Tryz.prog 102 #[.pointer (some ⟨r,0,none⟩)] w fun e w'=>e= .returned (.int .i64 (s.l.length:Int))∧w=w':=by
 obtain ⟨u,l,h1,h2,h3⟩:=hS;rw [←h1,zA];exact zFG (h3.rpAt h2)
theorem zH2 (hS:Rq2 w0 w L r P kind s):Calls Tryz.prog 103 #[.pointer (some ⟨r,0,none⟩)] w fun e w'=>e= .returned (.int .i64 (s.l.length:Int))∧w=w':=by
 obtain ⟨u,pv,l,h1,h2,h3⟩:=hS;rw [←h1,zA];exact zDQ (h3.rkAt h2)
theorem zIO (hS:Rq1 w0 w L r P kind s) (hk:NdI1 kind P s) (hP:P≤65536):Calls Tryz.prog 104 #[.pointer (some ⟨r,0,none⟩)] w fun e w'=>e= .returned (.int .i64 (zAD kind s:Nat))∧Below w.heap.size w w':=by
 obtain ⟨u,l,h1,h2,h3⟩:=hS;unfold NdI1 at hk;unfold zAD;rw [←h1] at hk⊢;exact zDC (h3.rpAt h2) hk hP
theorem KInv.preLen (hk:KInv kind P s) (hP:P≤65536):s.pre.length≤65536:=by
 have h1:=hk.room;unfold vF z5 at h1;omega
theorem zI6 (hS:Rq2 w0 w L r P kind s) (hk:NdI2 kind P s) (hP:P≤65536):Calls Tryz.prog 105 #[.pointer (some ⟨r,0,none⟩)] w fun e w'=>e= .returned (.int .i64 (zER kind s:Nat))∧Below w.heap.size w w':=by
 obtain ⟨u,pv,l,h1,h2,h3⟩:=hS;have hbg:=KInv.big hk hP;have hpl:=KInv.preLen hk hP;have hpo:=hk.pre;unfold zER vF;rw [←h1] at hbg hpo⊢;exact rM (h3.rkAt h2) (by omega) (by omega) (fun i hi hn=>(jH.1 (hpo i hi hn)).1)
theorem zJS (hS:Rq1 w0 w L r P kind s) (hk:NdI1 kind P s) (hkd:zO kind=true) (hp:zT (P:Int)=true):
 Calls Tryz.prog 41 #[.pointer (some ⟨r,0,none⟩)] w fun e w'=>∃v,e= .returned v∧Rq1 w0 w' (zB v (yV kind s.l P)::L) r P kind s:=by
 obtain ⟨u,l,h1,h2,h3⟩:=hS;unfold NdI1 at hk;rw [←h1] at hk⊢;have hr:=zZ hp;refine (zAV h3 h2 hk hkd hp (by omega)).mono ?_;rintro e w' ⟨v,rfl,hS'⟩;exact ⟨v,rfl,u,l,h1,h2,hS'.sw1⟩
theorem zIT (hS:Rq2 w0 w L r P kind s) (hk:NdI2 kind P s) (hkd:zO kind=true) (hp:zT (P:Int)=true):
 Calls Tryz.prog 42 #[.pointer (some ⟨r,0,none⟩)] w fun e w'=>∃v,e= .returned v∧Rq2 w0 w' (zB v (x9 kind s.l P)::L) r P kind s:=by
 obtain ⟨u,pv,l,h1,h2,h3⟩:=hS;have hr:=zZ hp;have hln:=hk.len (show P≤65536 by omega);have he:=hk.enc;rw [←h1] at hln he⊢;rw [zA] at hln;refine (iD (h3.rkAt h2) (by omega)).mono ?_;rintro e w' ⟨v,rfl,ho,hb⟩
 have hz:dW kind (pcs l) (P:Int)=0:=by unfold dW;rw [if_pos (by rw [hkd,hp];rfl),Int.toNat_natCast];exact he
 have hl:dQ kind (pcs l) (P:Int)=x9 kind (pcs l) P:=by unfold dQ;rw [if_pos hz,Int.toNat_natCast]
 rw [hl] at ho;exact ⟨v,rfl,u,pv,l,h1,h2,(h3.bytes hb ho (Nat.le_refl _)).sw1⟩
theorem zII (hS:Rq1 w0 w L r P kind s) (hk:NdI1 kind P s) (hP:P≤65536) (i:Int) (hi:yE i):
 Calls Tryz.prog 97 #[.pointer (some ⟨r,0,none⟩),.int .i64 i] w fun e w'=>∃y:CV,e= .returned (.tuple #[zJ y,.int .i64 (jA s.l i)])∧y.c=xG s.l i∧fH (xG s.l i)∧Rq1 w0 w' (zB y.kv y.c.key::zB y.vv y.c.val::L) r P kind s:=by
 obtain ⟨u,l,h1,h2,h3⟩:=hS;unfold NdI1 at hk;rw [←h1] at hk⊢;refine (zCN h3 h2 hk hP i hi).mono ?_;rintro e w' ⟨y,rfl,hy,hr,hS'⟩;exact ⟨y,rfl,hy,hr,u,l,h1,h2,hS'.sw2⟩
theorem zH6 (hS:Rq2 w0 w L r P kind s) (hk:NdI2 kind P s) (hP:P≤65536) (i:Int) (hi:yE i):
 Calls Tryz.prog 98 #[.pointer (some ⟨r,0,none⟩),.int .i64 i] w fun e w'=>∃y:CV,e= .returned (.tuple #[zJ y,.int .i64 (jA s.l i)])∧y.c=xG s.l i∧fH (xG s.l i)∧Rq2 w0 w' (zB y.kv y.c.key::zB y.vv y.c.val::L) r P kind s:=by
 refine (zAW hS hk hP i hi).mono ?_;intro e w' h;exact h
theorem zBV (h:Sep w0 w L) (v:Value) (b:List UInt8) (hv:RdB w v b):
 Calls Tryz.prog 44 #[v] w fun e w'=>
  (∃p kind l,y8 b kind l∧e= .returned (.tuple #[.pointer (some ⟨p,0,none⟩),.int .i64 0])∧Rq1 w0 w' L p b.length kind (plS l))∨
  ((∀kind l,¬y8 b kind l)∧e= .returned (.tuple #[.pointer none,.int .i64 60])∧Sep w0 w' L):=by
 have hD:=zE1 h hv;obtain ⟨A,c,rfl,hm⟩:=hv.form;go_enter Tryz.func44,Tryz.ntmps44;go_wp2_with fail;refine hD.mono ?_;rintro e w1 ⟨kind,l,u,z,rfl,hy,hr,hS1⟩;have hOw:Own w1 0 43 5 u l.length (zF l):=(show (csE u l).p w1 from hS1.head).1 _ (List.mem_cons_self ..);obtain ⟨B,d,rfl⟩:=Own.slice hOw;rcases hy with ⟨hy,rfl⟩|⟨hn,rfl,hl0,rfl⟩
 ·have hS2:=hS1.alloc 116 [.int .i64 kind,.int .i64 (b.length:Int),.slice B l.length d];have HY:=Lib.hid hy;clear hD hS1 hOw hy;go_wp2_with fail;go_ret2;exact .inl ⟨_,kind,pcs l,HY.out,rfl,.slice B l.length d,l,rfl,hr,hS2.rpShut⟩
 ·have HN:=Lib.hid hn;have hS:=hS1.tail;clear hD hn hS1 hOw hl0;go_wp2_with fail;go_ret2;exact .inr ⟨HN.out,rfl,hS⟩
end
def zF5 (x r:Nat):Ent:=z7 x 87 [.int .i64 1,.pointer (some ⟨r,0,none⟩),.pointer none]
def zE2 (x r:Nat):Ent:=z7 x 87 [.int .i64 2,.pointer none,.pointer (some ⟨r,0,none⟩)]
def RnP1 (w0 w:World) (L:List Ent) (x P:Nat) (kind:Int) (s:KP):Prop:=∃r,Rq1 w0 w (zF5 x r::L) r P kind s
section
variable {w0 w w':World} {L:List Ent} {x r P:Nat} {kind:Int} {s:KP}
theorem Rq1.below (h:Rq1 w0 w L r P kind s) (hb:Below w.heap.size w w'):Rq1 w0 w' L r P kind s:=by
 obtain ⟨E,h1,B⟩:=Rq1.sep h;exact B _ _ (h1.below hb)
theorem Rq1.ndb (h:Rq1 w0 w (zF5 x r::L) r P kind s):∃a b c,OBlk w x 87 [a,b,c]∧a= .int .i64 1∧b= .pointer (some ⟨r,0,none⟩):=by
 obtain ⟨E,h1,-⟩:=Rq1.sep h;exact ⟨_,_,_,h1.tail.head,rfl,rfl⟩
theorem RnP1.sep (h:RnP1 w0 w L x P kind s):∃E,Sep w0 w (E::L)∧∀(W:World) (M:List Ent),Sep w0 W (E::M)→RnP1 w0 W M x P kind s:=by
 obtain ⟨r,h⟩:=h;obtain ⟨E,h1,B⟩:=Rq1.sep h;refine ⟨lM [E,zF5 x r],Sep.pack (D:= [E,zF5 x r]) h1,fun W M h=>⟨r,B W _ ?_⟩⟩;exact Sep.unpack (D:= [E,zF5 x r]) h
theorem RnP1.below (h:RnP1 w0 w L x P kind s) (hb:Below w.heap.size w w'):RnP1 w0 w' L x P kind s:=by
 obtain ⟨E,h1,B⟩:=RnP1.sep h;exact B _ _ (h1.below hb)
theorem zIS (hS:RnP1 w0 w L x P kind s):Calls Tryz.prog 55 #[.pointer (some ⟨x,0,none⟩)] w fun e w'=>e= .returned (.int .i64 kind)∧w=w':=by
 obtain ⟨r,hS⟩:=hS;obtain ⟨a,b,c,hb,rfl,rfl⟩:=hS.ndb;have hK:=zIH hS;obtain ⟨c0,c1,c2⟩:=xC hb;go_enter Tryz.func55,Tryz.ntmps55;go_wp2_with (first|(go_at_call 100;(with_reducible refine hK.mono ?_);rintro e w1 ⟨rfl,rfl⟩)|fail);go_ret;exact ⟨rfl,rfl⟩
theorem zFD (hS:RnP1 w0 w L x P kind s):Calls Tryz.prog 56 #[.pointer (some ⟨x,0,none⟩)] w fun e w'=>e= .returned (.int .i64 (s.l.length:Int))∧w=w':=by
 obtain ⟨r,hS⟩:=hS;obtain ⟨a,b,c,hb,rfl,rfl⟩:=hS.ndb;have hK:=zIM hS;obtain ⟨c0,c1,c2⟩:=xC hb;go_enter Tryz.func56,Tryz.ntmps56;go_wp2_with (first|(go_at_call 102;(with_reducible refine hK.mono ?_);rintro e w1 ⟨rfl,rfl⟩)|fail);go_ret;exact ⟨rfl,rfl⟩
theorem zJE (hS:RnP1 w0 w L x P kind s) (hk:NdI1 kind P s) (hP:P≤65536):Calls Tryz.prog 57 #[.pointer (some ⟨x,0,none⟩)] w fun e w'=>e= .returned (.int .i64 (zAD kind s:Nat))∧Below w.heap.size w w':=by
 obtain ⟨r,hS⟩:=hS;obtain ⟨a,b,c,hb,rfl,rfl⟩:=hS.ndb;have hK:=zIO hS hk hP;obtain ⟨c0,c1,c2⟩:=xC hb;go_enter Tryz.func57,Tryz.ntmps57;go_wp2_with (first|(go_at_call 104;(with_reducible refine hK.mono ?_);rintro e w1 ⟨rfl,hw1⟩)|fail);go_ret;exact ⟨rfl,hw1⟩
theorem zIB (hS:RnP1 w0 w L x P kind s) (hk:NdI1 kind P s) (hkd:zO kind=true) (hp:zT (P:Int)=true):
 Calls Tryz.prog 11 #[.pointer (some ⟨x,0,none⟩)] w fun e w'=>∃v,e= .returned v∧RnP1 w0 w' (zB v (yV kind s.l P)::L) x P kind s:=by
 obtain ⟨r,hS⟩:=hS;obtain ⟨a,b,c,hb,rfl,rfl⟩:=hS.ndb;have hK:=zJS hS hk hkd hp;obtain ⟨c0,c1,c2⟩:=xC hb;clear hS hk hkd hp hb;go_enter Tryz.func11,Tryz.ntmps11;go_wp2_with (first|(go_at_call 41;(with_reducible refine hK.mono ?_);rintro e w1 ⟨v,rfl,hS1⟩)|fail);go_ret;obtain ⟨E,h1,B⟩:=Rq1.sep hS1;exact ⟨v,rfl,r,B _ _ (h1.sn [_])⟩
theorem zFK (hS:RnP1 w0 w L x P kind s) (hk:NdI1 kind P s) (hP:P≤65536) (i:Int) (hi:yE i):
 Calls Tryz.prog 52 #[.pointer (some ⟨x,0,none⟩),.int .i64 i] w fun e w'=>∃y:CV,e= .returned (.tuple #[zJ y,.int .i64 (jA s.l i)])∧y.c=xG s.l i∧fH (xG s.l i)∧RnP1 w0 w' (zB y.kv y.c.key::zB y.vv y.c.val::L) x P kind s:=by
 obtain ⟨r,hS⟩:=hS;obtain ⟨E,h1,B⟩:=Rq1.sep hS;have h2:=h1.alloc 43 [.slice none 0 0,.int .i64 0,.slice none 0 0,.int .i64 0,.int .i64 0];have hS2:=B _ _ h2.sw1;have hb:OBlk _ x 87 [.int .i64 1,.pointer (some ⟨r,0,none⟩),.pointer none]:=h2.tail.tail.head;obtain ⟨c0,c1,c2⟩:=xC hb;have hK:=zII hS2 hk hP i hi;clear hS h1 B h2 hS2 hb hk;generalize jA s.l i=z at*;generalize xG s.l i=cc at*;unfold zJ at hK⊢;go_enter Tryz.func52,Tryz.ntmps52
 go_wp2_with (first
  |(go_at_call 97;(with_reducible refine hK.mono ?_);rintro e w6 ⟨⟨ykv,yvv,yc⟩,rfl,hyc,hr,hS6⟩;simp only at hyc;subst hyc;obtain ⟨E6,h6,B6⟩:=Rq1.sep hS6;obtain ⟨zkey,zck,zval,zpg,zct⟩:=yc;obtain ⟨K2,kc,rfl⟩:=Own.slice (show OwB w6 0 ykv zkey from h6.tail.head);obtain ⟨V2,vc,rfl⟩:=Own.slice (show OwB w6 0 yvv zval from h6.tail.tail.head);have hB6:OBlk w6 w.heap.size 43 [.slice none 0 0,.int .i64 0,.slice none 0 0,.int .i64 0,.int .i64 0]:=h6.tail.tail.tail.head;obtain ⟨g0,g1,g2,g3,g4⟩:=zC hB6;obtain ⟨f0,f1,f2,f3,f4⟩:=xJ hB6)
  |fail)
 have h7:=(h6.sw [_,_,_]).set5 (.slice K2 zkey.length kc) (.int .i64 zck) (.slice V2 zval.length vc) (.int .i64 zpg) (.int .i64 zct);obtain ⟨e0,e1,e2,e3,e4⟩:=zC (show OBlk _ w.heap.size 43 _ from h7.head);refine bodyPost_ret (v:= .tuple #[.agg #[.slice K2 zkey.length kc,.int .i64 zck,.slice V2 zval.length vc,.int .i64 zpg,.int .i64 zct],.int .i64 z]) ?_ rfl ⟨⟨.slice K2 zkey.length kc,.slice V2 zval.length vc,⟨zkey,zck,zval,zpg,zct⟩⟩,rfl,rfl,hr,r,B6 _ _ (Sep.pick (L:= [_,_,_,_]) [0,3,1,2] (by decide) rfl h7.tail)⟩;simp [results,Tryz.results52,go_sem,e0,e1,e2,e3,e4]
end
def RnP2 (w0 w:World) (L:List Ent) (x P:Nat) (kind:Int) (s:KP):Prop:=∃r,Rq2 w0 w (zE2 x r::L) r P kind s
section
variable {w0 w w':World} {L:List Ent} {x r P:Nat} {kind:Int} {s:KP}
theorem Rq2.below (h:Rq2 w0 w L r P kind s) (hb:Below w.heap.size w w'):Rq2 w0 w' L r P kind s:=by
 obtain ⟨E,h1,B⟩:=Rq2.sep h;exact B _ _ (h1.below hb)
theorem Rq2.ndb (h:Rq2 w0 w (zE2 x r::L) r P kind s):∃a b c,OBlk w x 87 [a,b,c]∧a= .int .i64 2∧c= .pointer (some ⟨r,0,none⟩):=by
 obtain ⟨E,h1,-⟩:=Rq2.sep h;exact ⟨_,_,_,h1.tail.head,rfl,rfl⟩
theorem RnP2.sep (h:RnP2 w0 w L x P kind s):∃E,Sep w0 w (E::L)∧∀(W:World) (M:List Ent),Sep w0 W (E::M)→RnP2 w0 W M x P kind s:=by
 obtain ⟨r,h⟩:=h;obtain ⟨E,h1,B⟩:=Rq2.sep h;refine ⟨lM [E,zE2 x r],Sep.pack (D:= [E,zE2 x r]) h1,fun W M h=>⟨r,B W _ ?_⟩⟩;exact Sep.unpack (D:= [E,zE2 x r]) h
theorem RnP2.below (h:RnP2 w0 w L x P kind s) (hb:Below w.heap.size w w'):RnP2 w0 w' L x P kind s:=by
 obtain ⟨E,h1,B⟩:=RnP2.sep h;exact B _ _ (h1.below hb)
theorem zJQ (hS:RnP2 w0 w L x P kind s):Calls Tryz.prog 55 #[.pointer (some ⟨x,0,none⟩)] w fun e w'=>e= .returned (.int .i64 kind)∧w=w':=by
 obtain ⟨r,hS⟩:=hS;obtain ⟨a,b,c,hb,rfl,rfl⟩:=hS.ndb;have hK:=zJM hS;obtain ⟨c0,c1,c2⟩:=xC hb;go_enter Tryz.func55,Tryz.ntmps55;go_wp2_with (first|(go_at_call 101;(with_reducible refine hK.mono ?_);rintro e w1 ⟨rfl,rfl⟩)|fail);go_ret;exact ⟨rfl,rfl⟩
theorem zFN (hS:RnP2 w0 w L x P kind s):Calls Tryz.prog 56 #[.pointer (some ⟨x,0,none⟩)] w fun e w'=>e= .returned (.int .i64 (s.l.length:Int))∧w=w':=by
 obtain ⟨r,hS⟩:=hS;obtain ⟨a,b,c,hb,rfl,rfl⟩:=hS.ndb;have hK:=zH2 hS;obtain ⟨c0,c1,c2⟩:=xC hb;go_enter Tryz.func56,Tryz.ntmps56;go_wp2_with (first|(go_at_call 103;(with_reducible refine hK.mono ?_);rintro e w1 ⟨rfl,rfl⟩)|fail);go_ret;exact ⟨rfl,rfl⟩
theorem zIR (hS:RnP2 w0 w L x P kind s) (hk:NdI2 kind P s) (hP:P≤65536):Calls Tryz.prog 57 #[.pointer (some ⟨x,0,none⟩)] w fun e w'=>e= .returned (.int .i64 (zER kind s:Nat))∧Below w.heap.size w w':=by
 obtain ⟨r,hS⟩:=hS;obtain ⟨a,b,c,hb,rfl,rfl⟩:=hS.ndb;have hK:=zI6 hS hk hP;obtain ⟨c0,c1,c2⟩:=xC hb;go_enter Tryz.func57,Tryz.ntmps57;go_wp2_with (first|(go_at_call 105;(with_reducible refine hK.mono ?_);rintro e w1 ⟨rfl,hw1⟩)|fail);go_ret;exact ⟨rfl,hw1⟩
theorem zH0 (hS:RnP2 w0 w L x P kind s) (hk:NdI2 kind P s) (hkd:zO kind=true) (hp:zT (P:Int)=true):
 Calls Tryz.prog 11 #[.pointer (some ⟨x,0,none⟩)] w fun e w'=>∃v,e= .returned v∧RnP2 w0 w' (zB v (x9 kind s.l P)::L) x P kind s:=by
 obtain ⟨r,hS⟩:=hS;obtain ⟨a,b,c,hb,rfl,rfl⟩:=hS.ndb;have hK:=zIT hS hk hkd hp;obtain ⟨c0,c1,c2⟩:=xC hb;clear hS hk hkd hp hb;go_enter Tryz.func11,Tryz.ntmps11;go_wp2_with (first|(go_at_call 42;(with_reducible refine hK.mono ?_);rintro e w1 ⟨v,rfl,hS1⟩)|fail);go_ret;obtain ⟨E,h1,B⟩:=Rq2.sep hS1;exact ⟨v,rfl,r,B _ _ (h1.sn [_])⟩
theorem zE7 (hS:RnP2 w0 w L x P kind s) (hk:NdI2 kind P s) (hP:P≤65536) (i:Int) (hi:yE i):
 Calls Tryz.prog 52 #[.pointer (some ⟨x,0,none⟩),.int .i64 i] w fun e w'=>∃y:CV,e= .returned (.tuple #[zJ y,.int .i64 (jA s.l i)])∧y.c=xG s.l i∧fH (xG s.l i)∧RnP2 w0 w' (zB y.kv y.c.key::zB y.vv y.c.val::L) x P kind s:=by
 obtain ⟨r,hS⟩:=hS;obtain ⟨E,h1,B⟩:=Rq2.sep hS;have h2:=h1.alloc 43 [.slice none 0 0,.int .i64 0,.slice none 0 0,.int .i64 0,.int .i64 0];have hS2:=B _ _ h2.sw1;have hb:OBlk _ x 87 [.int .i64 2,.pointer none,.pointer (some ⟨r,0,none⟩)]:=h2.tail.tail.head;obtain ⟨c0,c1,c2⟩:=xC hb;have hK:=zH6 hS2 hk hP i hi;clear hS h1 B h2 hS2 hb hk;generalize jA s.l i=z at*;generalize xG s.l i=cc at*;unfold zJ at hK⊢;go_enter Tryz.func52,Tryz.ntmps52
 go_wp2_with (first
  |(go_at_call 98;(with_reducible refine hK.mono ?_);rintro e w6 ⟨⟨ykv,yvv,yc⟩,rfl,hyc,hr,hS6⟩;simp only at hyc;subst hyc;obtain ⟨E6,h6,B6⟩:=Rq2.sep hS6;obtain ⟨zkey,zck,zval,zpg,zct⟩:=yc;obtain ⟨K2,kc,rfl⟩:=Own.slice (show OwB w6 0 ykv zkey from h6.tail.head);obtain ⟨V2,vc,rfl⟩:=Own.slice (show OwB w6 0 yvv zval from h6.tail.tail.head);have hB6:OBlk w6 w.heap.size 43 [.slice none 0 0,.int .i64 0,.slice none 0 0,.int .i64 0,.int .i64 0]:=h6.tail.tail.tail.head;obtain ⟨g0,g1,g2,g3,g4⟩:=zC hB6;obtain ⟨f0,f1,f2,f3,f4⟩:=xJ hB6)
  |fail)
 have h7:=(h6.sw [_,_,_]).set5 (.slice K2 zkey.length kc) (.int .i64 zck) (.slice V2 zval.length vc) (.int .i64 zpg) (.int .i64 zct);obtain ⟨e0,e1,e2,e3,e4⟩:=zC (show OBlk _ w.heap.size 43 _ from h7.head);refine bodyPost_ret (v:= .tuple #[.agg #[.slice K2 zkey.length kc,.int .i64 zck,.slice V2 zval.length vc,.int .i64 zpg,.int .i64 zct],.int .i64 z]) ?_ rfl ⟨⟨.slice K2 zkey.length kc,.slice V2 zval.length vc,⟨zkey,zck,zval,zpg,zct⟩⟩,rfl,rfl,hr,r,B6 _ _ (Sep.pick (L:= [_,_,_,_]) [0,3,1,2] (by decide) rfl h7.tail)⟩;simp [results,Tryz.results52,go_sem,e0,e1,e2,e3,e4]
end
end Go.Proofs.YtfcnkpofcekmgaaGreat
namespace Go.Proofs.YtfcnkpofcekmgaaGreat
theorem nJ {l:List PC} {i gone:Nat} {c:PC} (hs:Rising l) (hi:i+gone≤l.length):Rising (zX l i gone c)↔¬(0≤jB l i c∨0≤yY l (i+gone) c):=by
 rw [cL hs hi]
 constructor
 ·rintro ⟨h1,h2⟩ h;rcases h with h|h
  ·unfold jB at h
   split at h
   ·rename_i hc;have:=h1 hc.1;omega
   ·omega
  ·unfold yY at h
   split at h
   ·rename_i hc;have:=h2 hc;omega
   ·omega
 ·intro h;refine ⟨fun h1=> ?_,fun h1=> ?_⟩
  ·have:¬0≤jB l i c:=fun e=>h (.inl e)
   unfold jB at this;rw [dif_pos ⟨h1,by omega⟩] at this;omega
  ·have:¬0≤yY l (i+gone) c:=fun e=>h (.inr e)
   unfold yY at this;rw [dif_pos h1] at this;omega
section
variable {kind:Int} {P:Nat} {l:List PC} {i gone:Nat} {c:PC}
theorem zJY (h:zQ kind P c=false):bK kind P l i gone c=62:=if_pos h
theorem zJ7 (h:zQ kind P c=true) (hs:Rising l) (hi:i+gone≤l.length) (h2:¬Rising (zX l i gone c)):bK kind P l i gone c=63:=by
 unfold bK;rw [if_neg (by rw [h];simp),if_pos (by rw [nJ hs hi] at h2;exact Classical.not_not.1 h2)]
theorem zJV (h:zQ kind P c=true) (hs:Rising l) (hi:i+gone≤l.length) (h2:Rising (zX l i gone c)) (h3:P<zW (zX l i gone c)):bK kind P l i gone c=61:=by
 unfold bK;rw [if_neg (by rw [h];simp),if_neg ((nJ hs hi).1 h2),if_pos h3]
theorem zKN (h:zQ kind P c=true) (hs:Rising l) (hi:i+gone≤l.length) (h2:Rising (zX l i gone c)) (h3:¬P<zW (zX l i gone c)):bK kind P l i gone c=0:=by
 unfold bK;rw [if_neg (by rw [h];simp),if_neg ((nJ hs hi).1 h2),if_neg h3]
theorem Wk.withLen (h:Wk kind P l) (hP:P≤65536) (hi:i+gone≤l.length):(zX l i gone c).length≤32769:=by
 have:=h.len hP
 unfold zX;simp only [List.length_append,List.length_take,List.length_cons,List.length_drop];omega
end
end Go.Proofs.YtfcnkpofcekmgaaGreat
