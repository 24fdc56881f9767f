/- Texts joined. -/
import Derived.Test.YtfcnkpofcekmgaaGreatNQ14
import Derived.OrdersHeld
set_option maxRecDepth 100000
set_option maxHeartbeats 64000000
namespace Go.Proofs.YtfcnkpofcekmgaaGreat
open Go
section
variable {P:Program} {ops:Array Oper} {Q:Exit→Act→World→Prop} {md:Region.Mode} {S:World→Prop} {n:Nat} {L:Array Bool→Act→World→Prop}
def sV (P:Program) (md:Region.Mode) (ops:Array Oper) (Q:Exit→Act→World→Prop) (n:Nat) (S:World→Prop) (L:Array Bool→Act→World→Prop):Nat→Array Bool→Act→World→Prop
 |0,listed,a,w=>L listed a w
 |f+1,listed,a,w=>Region.ready md ops listed≠ []∧∀i∈Region.ready md ops listed,i<n∧wpOp P ops Q i (fun a' w'=>S w'∧sV P md ops Q n S L f (listed.setIfInBounds i true) a' w') a w
theorem fW {g:Nat} (hL:∀listed a w,L listed a w→wpAny P md ops Q g listed a w):
 ∀(f:Nat) (listed:Array Bool) (a:Act) (w:World),sV P md ops Q n S L f listed a w→wpAny P md ops Q (f+g) listed a w
 |0,listed,a,w,h=>by rw [Nat.zero_add];exact hL _ _ _ h
 |f+1,listed,a,w,h=>by
  rw [show f+1+g=(f+g)+1 by omega];exact ⟨fun h0=>absurd h0 h.1,fun i hi=>wpOp_mono (fun a' w' h'=>fW hL f _ a' w' h'.2) (h.2 i hi).2⟩
theorem wZ {i:Nat} {oi:Oper} {v:Value} (hi:ops[i]? =some oi) (hsel:∀(j:Nat) (o:Oper) cs b,ops[j]? =some o→o.op≠ .select cs b)
 (hs:Region.sinkB md ops n=true) (hc:Region.chainB md ops n=true) (hn:n<ops.size) (hin:i<n)
 (hdone:∀listed a w,L listed a w→∀j∈Region.ready md ops listed,n≤j)
 (hQ:∀c a w,Q (.panic c) (a.put oi.dst v) w→Q (.panic c) a w):
 ∀(f:Nat) (listed:Array Bool) (a:Act) (w:World),HeadInv md ops n listed→
  (∀j oj,ops[j]? =some oj→j≠i→listed.getD j true=false→(∀e∈oj.after,Region.binds md e=true→e.on≠i)→oi.apart ops oj=true)→
  i∈Region.ready md ops listed→YieldsIf P ops S oi v a→S w→
  sV P md ops Q n S L f (listed.setIfInBounds i true) (a.put oi.dst v) w→sV P md ops Q n S L (f+1) listed a w:=by
 intro f
 induction f with
 |zero=>
  intro listed a w inv _ hr hy hS H;have hun:=(mem_ready.1 hr).1;refine ⟨fun h=>(by rw [h] at hr;cases hr),fun j hj=> ?_⟩
  have hjn:j<n:=by
   rcases Nat.lt_or_ge j n with h|h
   ·exact h
   ·exact absurd hj (tail_waits hs hc hn inv _ i rfl hin hun j h)
  refine ⟨hjn,?_⟩
  by_cases hji:j=i
  ·subst hji;exact hy.wpOp hi hS ⟨hS,H⟩
  ·have:=hdone _ _ _ H j (ready_mono hj hji)
   omega
 |succ f ih=>
  intro listed a w inv hfree hr hy hS H;have hun:=(mem_ready.1 hr).1;refine ⟨fun h=>(by rw [h] at hr;cases hr),fun j hj=> ?_⟩
  have hjn:j<n:=by
   rcases Nat.lt_or_ge j n with h|h
   ·exact h
   ·exact absurd hj (tail_waits hs hc hn inv _ i rfl hin hun j h)
  refine ⟨hjn,?_⟩
  by_cases hji:j=i
  ·subst hji;exact hy.wpOp hi hS ⟨hS,H⟩
  ·have h1:=(H.2 j (ready_mono hj hji)).2;obtain ⟨hjun,oj,hoj,hall⟩:=mem_ready.1 hj
   have hnot:∀e∈oj.after,Region.binds md e=true→e.on≠i:=fun e he hb heq=>by
    have h1:=hall e he hb;rw [heq,getD_both hun] at h1
    cases h1
   have h2:=wpOp_putIf hoj (hfree j oj hoj hji hjun hnot) (fun cs b=>hsel i oi cs b hi) (fun cs b=>hsel j oj cs b hoj) hQ hy h1
   have hfree':∀k ok,ops[k]? =some ok→k≠i→(listed.setIfInBounds j true).getD k true=false→
    (∀e∈ok.after,Region.binds md e=true→e.on≠i)→oi.apart ops ok=true:=fun k ok hk hki hun hno=>by
    refine hfree k ok hk hki ?_ hno
    by_cases hjk:j=k
    ·subst hjk;exact hjun
    ·rw [getD_set_ne true hjk] at hun;exact hun
   refine wpOp_mono (fun a' w' h3=>⟨h3.2.1,ih (listed.setIfInBounds j true) a' w' (inv.set hj hjn) hfree' (ready_mono hr (Ne.symm hji)) h3.1 h3.2.1 ?_⟩) h2;rw [Array.setIfInBounds_comm _ _ hji];exact h3.2.2
def wpG (P:Program) (ops:Array Oper) (Q:Exit→Act→World→Prop) (n:Nat) (S:World→Prop) (T:Act→World→Prop) (f:Nat) (listed:Array Bool) (a:Act) (w:World):Prop:=
 HeadInv .any ops n listed→Region.noSelect ops=true→Region.sinkB .any ops n=true→Region.chainB .any ops n=true→n<ops.size→
  sV P .any ops Q n S (fun l' a' w'=>Region.seqB .any ops (ops.size-n) n l'=true∧T a' w') f listed a w
variable {T:Act→World→Prop}
theorem lN {l:List Oper} {i:Nat} {o:Oper} {r:List Oper} (h:l.drop i=o::r):l.toArray[i]? =some o:=by
 have:=congrArg (fun x=>x[0]?) h
 simp only [List.getElem?_drop,Nat.add_zero,List.getElem?_cons_zero] at this
 simpa using this
theorem tX {i:Nat} {oi:Oper} {v:Value} {f:Nat} {listed:Array Bool} {a:Act} {w:World} (hi:ops[i]? =some oi) (hin:Nat.blt i n=true) (hf:Region.free .any ops listed i=true) (hr:(Region.ready .any ops listed).contains i=true)
 (hQ:∀c a w,Q (.panic c) (a.put oi.dst v) w→Q (.panic c) a w) (hy:YieldsIf P ops S oi v a) (hS:S w) (h:wpG P ops Q n S T f (listed.setIfInBounds i true) (a.put oi.dst v) w):wpG P ops Q n S T (f+1) listed a w:=fun inv h1 h2 h3 h4=>by
 have hr':i∈Region.ready .any ops listed:=by simpa using hr
 have hin':i<n:=by simpa using hin
 exact wZ hi (Region.noSelect_spec h1) h2 h3 h4 hin' (fun l' a' w' hL=>seqB_ready hL.1) hQ f listed a w inv (Region.free_spec hi hf) hr' hy hS (h (inv.set hr' hin') h1 h2 h3 h4)
theorem zCW {i:Nat} {o:Oper} {f:Nat} {listed:Array Bool} {a:Act} {w:World} (hi:ops[i]? =some o) (hin:Nat.blt i n=true) (hr:Region.ready .any ops listed= [i])
 (h:∀K':Act→World→Prop,Shut (∀a w,S w→(S w→wpG P ops Q n S T f (listed.setIfInBounds i true) a w)→K' a w)→if Region.wanted o (yielded ops a.tmps)=true then Oper.wp P o a w K' Q else K' (a.put o.dst undef) w):wpG P ops Q n S T (f+1) listed a w:=fun inv h1 h2 h3 h4=>by
 have hin':i<n:=by simpa using hin
 refine ⟨by rw [hr];simp,fun j hj=> ?_⟩;rw [hr] at hj
 obtain rfl:j=i:=by simpa using hj
 refine ⟨hin',wpOp_step hi (fun K' hK=>h K' (fun a w hS hW=>hK a w ⟨hS,hW hS (inv.set (by rw [hr];simp) hin') h1 h2 h3 h4⟩))⟩
theorem zH (i:Nat) {l rs:List Oper} {oi:Oper} {v:Value} {f:Nat} {listed:Array Bool} {a:Act} {w:World} (hi:l.drop i=oi::rs) (hin:Nat.blt i n=true) (hf:Region.free .any l.toArray listed i=true) (hr:(Region.ready .any l.toArray listed).contains i=true)
 (hQ:∀c a w,Q (.panic c) (a.put oi.dst v) w→Q (.panic c) a w) (hw:Region.wanted oi (yielded l.toArray a.tmps)=true) (hS:S w) (hy:∀w,S w→(execOp a.eval oi).run P w= .ok (.value v) w) (h:wpG P l.toArray Q n S T f (listed.setIfInBounds i true) (a.put oi.dst v) w):wpG P l.toArray Q n S T (f+1) listed a w:=
 tX (lN hi) hin hf hr hQ (.inl ⟨hw,hy⟩) hS h
theorem zU (i:Nat) {l rs:List Oper} {oi:Oper} {f:Nat} {listed:Array Bool} {a:Act} {w:World} (hi:l.drop i=oi::rs) (hin:Nat.blt i n=true) (hf:Region.free .any l.toArray listed i=true) (hr:(Region.ready .any l.toArray listed).contains i=true)
 (hQ:∀c a w,Q (.panic c) (a.put oi.dst undef) w→Q (.panic c) a w) (hw:Region.wanted oi (yielded l.toArray a.tmps)=false) (hS:S w) (h:wpG P l.toArray Q n S T f (listed.setIfInBounds i true) (a.put oi.dst undef) w):wpG P l.toArray Q n S T (f+1) listed a w:=
 tX (lN hi) hin hf hr hQ (.inr ⟨hw,rfl⟩) hS h
theorem jU (i:Nat) {l rs:List Oper} {o:Oper} {f:Nat} {listed:Array Bool} {a:Act} {w:World} (hi:l.drop i=o::rs) (hin:Nat.blt i n=true) (hr:Region.ready .any l.toArray listed= [i])
 (h:∀K':Act→World→Prop,Shut (∀a w,S w→(S w→wpG P l.toArray Q n S T f (listed.setIfInBounds i true) a w)→K' a w)→if Region.wanted o (yielded l.toArray a.tmps)=true then Oper.wp P o a w K' Q else K' (a.put o.dst undef) w):wpG P l.toArray Q n S T (f+1) listed a w:=
 zCW (lN hi) hin hr h
theorem fB {listed:Array Bool} {a:Act} {w:World} (hB:Region.seqB .any ops (ops.size-n) n listed=true) (h:T a w):wpG P ops Q n S T 0 listed a w:=fun _ _ _ _ _=>⟨hB,h⟩
theorem jJ {id:Nat} {a:Act} {w:World} {l:List Oper} (n:Nat) (S:World→Prop) (hm:P.follows .mixedOrders=true) (hsel:Region.noSelect l.toArray=true) (hs:Region.sinkB .any l.toArray n=true) (hc:Region.chainB .any l.toArray n=true) (hn:Nat.blt n l.length=true)
 (h:wpG P l.toArray Q n S (wpList P l.toArray Q (l.drop n)) n (Array.replicate l.toArray.size false) a w.drew):(Code.region id l.toArray true).wp P Q a w:=by
 have hn0:n<l.length:=by simpa using hn
 have hn':n<l.toArray.size:=by simpa using hn0
 have hdl:(l.drop n).length=l.toArray.size-n:=by simp
 have inv0:HeadInv .any l.toArray n (Array.replicate l.toArray.size false):=
  ⟨by simp,fun j oj _ hl=>(by rw [getD_replicate_false] at hl;cases hl),fun t _ ht=>getD_in (by simpa using ht) (getD_replicate_false _ _)⟩
 have H:=h inv0 hsel hs hc hn';refine wp_region_any hm ?_
 have:=fW (g:=l.toArray.size-n) (fun listed a' w' hL=>by
  have:=wpAny_of_seq (md:= .any) (Q':=Q) (l.drop n) n listed a' w' (fun j=>by simp [List.getElem?_drop]) (by rw [hdl];exact hL.1) hL.2
  rwa [hdl] at this) _ _ _ _ H
 rw [show n+(l.toArray.size-n)=l.toArray.size by omega] at this;exact this
end
end Go.Proofs.YtfcnkpofcekmgaaGreat
namespace Go.Proofs.YtfcnkpofcekmgaaGreat
open Go.RowKit
theorem dE (l:List CV) (i gone:Nat) (y:CV):pcs (l.take i++y::l.drop (i+gone))=zX (pcs l) i gone y.c:=by
 unfold zX;rw [vJ,fM,←mC];rfl
theorem mH {kind:Int} {l:List PC} {pre:List UInt8} {i gone:Nat} {c:PC} (h:PreOk kind l pre) (hi:i+gone≤l.length) (hg:gone≤1) (ha:xI kind pre i gone c=false):PreOk kind (zX l i gone c) pre:=fun j hj hnf=>by
 unfold xI vZ at ha;rcases zA1 hi hg hj with ⟨rfl,e⟩|⟨k,hk,e,hk0⟩
 ·rw [e]
  by_cases hg0:gone=0
  ·rw [if_pos hg0,Bool.or_eq_false_iff] at ha
   simpa using ha.2
  ·rw [if_neg hg0] at ha;have h1:decide (kind=3∧j=0)=false:=decide_eq_false hnf;rw [h1] at ha
   simpa using ha
 ·rw [e];refine h k hk (fun e2=> ?_);rcases hk0 e2.2 with e3|⟨e3,e4⟩
  ·exact hnf ⟨e2.1,e3⟩
  ·rw [if_pos e4,Bool.or_eq_false_iff,decide_eq_false_iff_not] at ha;exact ha.1 ⟨e2.1,e3⟩
theorem oD {kind:Int} {P:Nat} {s:KP} (h:KInv kind P s) (hP:P≤65536) {i gone:Nat} {c:PC} (hm:zQ kind P c=true):xT (zX s.l i gone c)≤140737488355328:=by
 have h1:=gD (P:=P) hP (l:=zX s.l i gone c) (fun d hd=>by
  rcases r7 hd with rfl|hd
  ·exact xY hm
  ·exact h.ok d hd)
 have h2:=h.len hP
 have h3:(zX s.l i gone c).length≤s.l.length+1:=by
  unfold zX;simp only [List.length_append,List.length_cons,List.length_take,List.length_drop];omega
 omega
theorem KInv.nums {kind:Int} {P:Nat} {s:KP} (h:KInv kind P s):vF kind s≤P∧s.waste≤P∧s.pre.length≤P:=by
 have h1:=h.room;refine ⟨by omega,by omega,?_⟩;unfold vF z5 at h1;omega
theorem lE {w0 w:World} {M:List Ent} {v:Value} {n:Nat} {xs:List Value} (h:Sep w0 w (zP 43 5 v n xs::M)):Own w 0 43 5 v n xs:=h.head
theorem lU {M:List Ent} {u:Value} {l:List CV} (h1:zP 43 5 u l.length (zF l)∈M) (h2:∀E∈zG l,E∈M) (hr:RngC l):CsIn M u l:=fun W hW=>by
 have ho:Own W 0 43 5 u l.length (zF l):=hW _ h1;refine ⟨ho.rd,fun x hx=> ?_⟩;have hk:OwB W 0 x.kv x.c.key:=hW (zB x.kv x.c.key) (h2 _ (List.mem_flatMap.2 ⟨x,hx,by simp⟩));have hv:OwB W 0 x.vv x.c.val:=hW (zB x.vv x.c.val) (h2 _ (List.mem_flatMap.2 ⟨x,hx,by simp⟩));exact ⟨hk.rd,hv.rd,(hr x hx).1,(hr x hx).2.1,(hr x hx).2.2⟩
theorem uU {l:List CV} {k:Nat} {y:CV} {E:Ent} (h:E∈zG (l.take k++y::l.drop k)):E=zB y.kv y.c.key∨E=zB y.vv y.c.val∨E∈zG l:=by
 rw [xM,bB] at h;rw [qC l k];simp only [List.mem_append,List.mem_cons] at h⊢;rcases h with h|h|h|h
 ·exact .inr (.inr (.inl h))
 ·exact .inl h
 ·exact .inr (.inl h)
 ·exact .inr (.inr (.inr h))
def bC (w0:World) (L:List Ent) (p P:Nat) (kind:Int) (z:Int) (s:KP) (e:Ending) (w':World):Prop:=e= .returned (.int .i64 z)∧PgK w0 w' L p P kind s
section
variable {w0 w:World} {L:List Ent} {p P used waste bx:Nat} {kind:Int} {U PV N B KA VA K2 V2:Option Addr} {uc pvc n3 c7 ka va kc vc:Nat} {l:List CV} {pre key val:List UInt8} {ck pg ct:Int}
def jM (p P used waste bx:Nat) (kind:Int) (U PV KA VA:Option Addr) (uc pvc ka va:Nat) (l:List CV) (pre key val:List UInt8) (ck pg ct:Int) (L:List Ent):List Ent:=
 z7 bx 43 [.slice KA key.length ka,.int .i64 ck,.slice VA val.length va,.int .i64 pg,.int .i64 ct]::pkB p kind P (.slice U l.length uc) (.slice PV pre.length pvc) used waste::zP 43 5 (.slice U l.length uc) l.length (zF l)::zB (.slice PV pre.length pvc) pre::(zG l++L)
def Fct (w:World) (p P used waste bx:Nat) (kind:Int) (U PV KA VA:Option Addr) (uc pvc ka va:Nat) (l:List CV) (pre key val:List UInt8) (ck pg ct:Int):Prop:=
 (w.cell? ⟨bx,0,none⟩=some (.slice KA key.length ka)∧w.cell? ⟨bx,1,none⟩=some (.int .i64 ck)∧w.cell? ⟨bx,2,none⟩=some (.slice VA val.length va)∧w.cell? ⟨bx,3,none⟩=some (.int .i64 pg)∧w.cell? ⟨bx,4,none⟩=some (.int .i64 ct))∧
 w.cell? ⟨p,0,none⟩=some (.int .i64 kind)∧w.cell? ⟨p,1,none⟩=some (.int .i64 (P:Int))∧w.cell? ⟨p,2,none⟩=some (.slice U l.length uc)∧w.cell? ⟨p,3,none⟩=some (.slice PV pre.length pvc)∧w.cell? ⟨p,4,none⟩=some (.int .i64 (used:Int))∧w.cell? ⟨p,5,none⟩=some (.int .i64 (waste:Int))
theorem fQ {M:List Ent} (h:Sep w0 w (M++jM p P used waste bx kind U PV KA VA uc pvc ka va l pre key val ck pg ct L)):Fct w p P used waste bx kind U PV KA VA uc pvc ka va l pre key val ck pg ct:=
 ⟨zC (T:=43) (h.of_mem (E:=z7 bx _ _) (by simp [jM])),yZ (T:=150) (h.of_mem (E:=pkB p kind P (.slice U l.length uc) (.slice PV pre.length pvc) used waste) (by simp [jM]))⟩
theorem zHR {M:List Ent} (h:Sep w0 w (M++jM p P used waste bx kind U PV KA VA uc pvc ka va l pre key val ck pg ct L)) (o:Obj):Fct (w.alloc o) p P used waste bx kind U PV KA VA uc pvc ka va l pre key val ck pg ct:=
 fQ (h.below ((Below.refl _ _).alloc (Nat.le_refl _) o))
theorem hx7 {M:List Ent} (h:Sep w0 w (M++jM p P used waste bx kind U PV KA VA uc pvc ka va l pre key val ck pg ct L)) (hx:XIn L ⟨.slice KA key.length ka,.slice VA val.length va,⟨key,ck,val,pg,ct⟩⟩):CV.ok w ⟨.slice KA key.length ka,.slice VA val.length va,⟨key,ck,val,pg,ct⟩⟩:=
 hx.ok h (fun E hE=>by simp [jM,hE])
theorem rd7 {M:List Ent} (h:Sep w0 w (M++jM p P used waste bx kind U PV KA VA uc pvc ka va l pre key val ck pg ct L)) (hr:RngC l):RdCs w (.slice U l.length uc) l:=
 h.openRd (by simp [jM]) (fun E hE=>by simp [jM,hE]) hr
theorem aF {M:List Ent} (h:Sep w0 w (M++jM p P used waste bx kind U PV KA VA uc pvc ka va l pre key val ck pg ct L)) (hr:RngC l) (hl:l.length≤1000000):
 Calls Tryz.prog 229 #[.slice U l.length uc] w fun e w'=>∃N n3,e= .returned (.slice N l.length n3)∧Sep w0 w' ((zP 43 5 (.slice N l.length n3) l.length (zF l)::M)++jM p P used waste bx kind U PV KA VA uc pvc ka va l pre key val ck pg ct L):=by
 refine (rR h _ l (rd7 h hr) hl).mono ?_;rintro e w' ⟨v,rfl,hS⟩;obtain ⟨N,n3,rfl⟩:=Own.slice (lE hS);exact ⟨N,n3,rfl,hS⟩
theorem zAQ {M:List Ent} (h:Sep w0 w (M++jM p P used waste bx kind U PV KA VA uc pvc ka va l pre key val ck pg ct L)) (hx:XIn L ⟨.slice KA key.length ka,.slice VA val.length va,⟨key,ck,val,pg,ct⟩⟩):
 Calls Tryz.prog 225 #[.agg #[.slice KA key.length ka,.int .i64 ck,.slice VA val.length va,.int .i64 pg,.int .i64 ct]] w fun e w'=>∃K2 kc V2 vc,e= .returned (.agg #[.slice K2 key.length kc,.int .i64 ck,.slice V2 val.length vc,.int .i64 pg,.int .i64 ct])∧
  Sep w0 w' ((zB (.slice K2 key.length kc) key::zB (.slice V2 val.length vc) val::M)++jM p P used waste bx kind U PV KA VA uc pvc ka va l pre key val ck pg ct L):=by
 refine (oP h _ (hx7 h hx) hx.s1 hx.s2).mono ?_;rintro e w' ⟨⟨ykv,yvv,yc⟩,rfl,hyc,hS⟩;simp only at hyc;subst hyc;obtain ⟨K2,kc,rfl⟩:=Own.slice (show OwB w' 0 ykv key from hS.head);obtain ⟨V2,vc,rfl⟩:=Own.slice (show OwB w' 0 yvv val from hS.tail.head);exact ⟨K2,kc,V2,vc,rfl,hS⟩
theorem zEH {M:List Ent} (h:Sep w0 w (M++jM p P used waste bx kind U PV KA VA uc pvc ka va l pre key val ck pg ct L)) (hx:XIn L ⟨.slice KA key.length ka,.slice VA val.length va,⟨key,ck,val,pg,ct⟩⟩):
 Calls Tryz.prog 230 #[.slice KA key.length ka,.slice PV pre.length pvc] w fun e w'=>e= .returned (.bool (jG key pre))∧w'=w:=
 s9 _ _ _ _ w (hx7 h hx).k (show OwB w 0 (.slice PV pre.length pvc) pre from h.of_mem (E:=zB _ _) (by simp [jM])).rd
theorem zF6 (h:Sep w0 w ([zB (.slice K2 key.length kc) key,zB (.slice V2 val.length vc) val,zP 43 5 (.slice N l.length n3) l.length (zF l)]++jM p P used waste bx kind U PV KA VA uc pvc ka va l pre key val ck pg ct L)) (hr:RngC l) (hl:l.length≤1000000) (k:Nat) (hk:k≤l.length):
 Calls Tryz.prog 209 #[.slice N l.length n3,.int .i64 (k:Int),.slice (some ⟨w.heap.size,0,none⟩) 1 1] (w.alloc (.cells #[.slice K2 key.length kc,.int .i64 ck,.slice V2 val.length vc,.int .i64 pg,.int .i64 ct] 43)) fun e w'=>∃B c7,e= .returned (.slice B (l.length+1) c7)∧
  Sep w0 w' ([zP 43 5 (.slice B (l.length+1) c7) (l.length+1) (zF (l.take k++(⟨.slice K2 key.length kc,.slice V2 val.length vc,⟨key,ck,val,pg,ct⟩⟩:CV)::l.drop k)),zB (.slice K2 key.length kc) key,zB (.slice V2 val.length vc) val]++jM p P used waste bx kind U PV KA VA uc pvc ka va l pre key val ck pg ct L):=by
 have hI:=pK (w:=w) (u:= .slice N l.length n3) (l:=l) (h.of_mem (E:=zP 43 5 (.slice N l.length n3) l.length (zF l)) (by simp)) (vB (rd7 h hr).ok) ⟨.slice K2 key.length kc,.slice V2 val.length vc,⟨key,ck,val,pg,ct⟩⟩ (vC (show OwB w 0 (.slice K2 key.length kc) key from h.head) (show OwB w 0 (.slice V2 val.length vc) val from h.tail.head)) (by omega) k hk;refine hI.mono ?_;intro e w7 hI7;have h2:Sep w0 w (zP 43 5 (.slice N l.length n3) l.length (zF l)::zB (.slice K2 key.length kc) key::zB (.slice V2 val.length vc) val::jM p P used waste bx kind U PV KA VA uc pvc ka va l pre key val ck pg ct L):=Sep.sw2 h;obtain ⟨v7,rfl,hS7⟩:=Sep.insAt h2 hI7
 have hlN:(l.take k++(⟨.slice K2 key.length kc,.slice V2 val.length vc,⟨key,ck,val,pg,ct⟩⟩:CV)::l.drop k).length=l.length+1:=by simp only [List.length_append,List.length_cons,List.length_take,List.length_drop];omega
 rw [hlN] at hS7;obtain ⟨B7,c7,rfl⟩:=Own.slice (lE hS7);exact ⟨B7,c7,rfl,hS7⟩
end
theorem zEO {w0 w:World} {L M:List Ent} {E0:Ent} (hE0:E0∈M) {p P used waste:Nat} {kind:Int} {u pv u':Value} {pre:List UInt8} {l':List CV} {sOld:KP} {lp:List PC} (old:Nat) (O:Int) (hO:O=(old:Int)) (anew:Bool)
 (hS:Sep w0 w (pkB p kind P u pv used waste::zB pv pre::M)) (hM:CsIn M u' l') (hlp:pcs l'=lp) (hr:RngC l') (hf:xT lp≤140737488355328) (ho:waste+old≤1000000) (hpre:pre.length≤1000000) (hP:P≤65536) (hp:anew=false→PreOk kind lp pre)
 (hold:∀w',Sep w0 w' (pkB p kind P u pv used waste::zB pv pre::M)→PgK w0 w' L p P kind sOld)
 (hnew:∀w' pv' used' waste' pre',Sep w0 w' (pkB p kind P u' pv' used' waste'::zB pv' pre'::M)→Sep w0 w' (pkE p kind P u' pv' used' waste' l' pre'::L)):
 Calls Tryz.prog 228 #[.pointer (some ⟨p,0,none⟩),u',.int .i64 O,.bool anew] w (fun e w'=>bC w0 L p P kind (if P<zS kind lp then 61 else 0) (if P<zS kind lp then sOld else xU kind P pre lp (waste+old) anew) e w'∧E0.p w'):=by
 subst hlp hO;refine (lG hS hM hf old ho hpre hP anew hp).mono ?_;rintro e w' (⟨h4,rfl,h5⟩|⟨h4,rfl,pv',h5⟩)
 ·refine ⟨⟨by rw [if_pos h4],?_⟩,h5.of_mem (by simp [hE0])⟩;rw [if_pos h4];exact hold w' h5
 ·refine ⟨⟨by rw [if_neg (by omega)],?_⟩,h5.of_mem (by simp [hE0])⟩;rw [if_neg (by omega)];exact ⟨u',pv',l',by unfold xU;split<;>rfl,hr,hnew _ _ _ _ _ h5⟩
theorem Sep.push2b {w0 w:World} {a b c d e:Ent} {T L:List Ent} (h:Sep w0 w (a::b::c::d::e::(T++L))):Sep w0 w (a::b::c::(T++d::e::L)):=h.perm ((List.perm_append_comm_assoc [d,e] T L).cons _|>.cons _|>.cons _)
theorem aM {w0 w:World} {L:List Ent} {p P:Nat} {kind:Int} {s:KP} (hS:PgK w0 w L p P kind s) (hk:KInv kind P s) (hkd:kind=2∨kind=3) (hP:P≤65536) (x:CV) (hx:XIn L x) (i:Int) (hi64:yE i):
 Calls Tryz.prog 219 #[.pointer (some ⟨p,0,none⟩),.int .i64 i,zJ x] w (bC w0 L p P kind (yR kind P s.l i 0 x.c) (jC kind P s i 0 x.c)):=by
 obtain ⟨u,pv,l,hpl,hr,hS⟩:=hS;obtain ⟨sl,pre,waste⟩:=s;simp only at hpl;subst hpl;have hlen:=hk.len hP;obtain ⟨hn1,hn2,hn3⟩:=hk.nums;simp only [zA] at hlen hn1 hn2 hn3;have hS0:=hS.pkOpen;have hS1:=hS0.alloc 43 [x.kv,.int .i64 x.c.kind,x.vv,.int .i64 x.c.page,.int .i64 x.c.count]
 have hxm:∀E∈L,E∈(z7 w.heap.size 43 [x.kv,.int .i64 x.c.kind,x.vv,.int .i64 x.c.page,.int .i64 x.c.count]::pkB p kind P u pv (vF kind ⟨pcs l,pre,waste⟩) waste::zP 43 5 u l.length (zF l)::zB pv pre::(zG l++L)):=fun E hE=>by simp [hE]
 have hx1:=hx.ok hS1 hxm;have hrd:=hS1.openRd (u:=u) (l:=l) (by simp) (fun E hE=>by simp [hE]) hr;obtain ⟨U,uc,rfl,hm,hc⟩:=hrd.slice;have hpw:=(show OwB _ 0 pv pre from hS1.tail.tail.tail.head);obtain ⟨PV,pvc,rfl⟩:=Own.slice hpw;obtain ⟨used,hus⟩:∃used,vF kind ⟨pcs l,pre,waste⟩=used:=⟨_,rfl⟩;have HUS:=Lib.hid hus;simp only [hus] at hS1 hxm hn1;have hbp:OBlk _ p 150 [.int .i64 kind,.int .i64 (P:Int),.slice U l.length uc,.slice PV pre.length pvc,.int .i64 (used:Int),.int .i64 (waste:Int)]:=hS1.tail.head;obtain ⟨b0,b1,b2,b3,b4,b5⟩:=yZ hbp
 have hfin:∀w',Sep w0 w' (pkB p kind P (.slice U l.length uc) (.slice PV pre.length pvc) used waste::zP 43 5 (.slice U l.length uc) l.length (zF l)::zB (.slice PV pre.length pvc) pre::(zG l++L))→PgK w0 w' L p P kind ⟨pcs l,pre,waste⟩:=fun w' h=>
  ⟨.slice U l.length uc,.slice PV pre.length pvc,l,rfl,hr,by rw [HUS.out];exact h.pkClose⟩
 have HF:=Lib.hid hfin;clear hus hpw hfin
 by_cases hin:i<0∨(l.length:Int)<i
 ·have hz:yR kind P (pcs l) i 0 x.c=64:=if_pos (by rw [zA];omega);have hz2:jC kind P ⟨pcs l,pre,waste⟩ i 0 x.c=⟨pcs l,pre,waste⟩:=if_neg (by show ¬yR kind P (pcs l) i 0 x.c=0;rw [hz];decide)
  show Calls Tryz.prog _ _ w (bC w0 L p P kind (yR kind P (pcs l) i 0 x.c) _)
  rw [hz,hz2];have hS2:=hS1.tail;clear hz hz2 hS1 hx1 hrd hbp hxm hS hS0;unfold zJ;rcases hin with h|h
  ·go_enter Tryz.func219,Tryz.ntmps219;go_wp2_with fail;go_ret;exact ⟨rfl,HF.out _ hS2⟩
  ·have h':¬i<0:=by omega
   go_enter Tryz.func219,Tryz.ntmps219;go_wp2_with fail;go_ret;exact ⟨rfl,HF.out _ hS2⟩
 ·obtain ⟨k,rfl⟩:∃k:Nat,i=(k:Int):=⟨i.toNat,by omega⟩
  have hkl:k≤l.length:=by omega
  have hz:yR kind P (pcs l) (k:Int) 0 x.c=k8 kind P (pcs l) k 0 x.c:=by unfold yR;rw [if_neg (by rw [zA];omega)];rfl
  have hzs:k8 kind P (pcs l) k 0 x.c=0→jC kind P ⟨pcs l,pre,waste⟩ (k:Int) 0 x.c=xU kind P pre (zX (pcs l) k 0 x.c) waste (xI kind pre k 0 x.c):=fun e=>by
   unfold jC;rw [if_pos (by show yR kind P (pcs l) (k:Int) 0 x.c=0;rw [hz];exact e)];unfold pW cR;rfl
  have hzn:k8 kind P (pcs l) k 0 x.c≠0→jC kind P ⟨pcs l,pre,waste⟩ (k:Int) 0 x.c=⟨pcs l,pre,waste⟩:=fun e=>if_neg (by show ¬yR kind P (pcs l) (k:Int) 0 x.c=0;rw [hz];exact e)
  show Calls Tryz.prog _ _ w (bC w0 L p P kind (yR kind P (pcs l) (k:Int) 0 x.c) _)
  rw [hz];have hrf:=m0 (w:=w.alloc (.cells [x.kv,.int .i64 x.c.kind,x.vv,.int .i64 x.c.page,.int .i64 x.c.count].toArray 43)) ⟨hbp,hrd⟩ hkd hP x hx1 k k ((k:Int)-1) (k:Int) rfl rfl hkl hkl
  have hpt:k8 kind P (pcs l) k 0 x.c=if (if zQ kind P x.c=false then (62:Int) else if 0≤jB (pcs l) k x.c∨0≤yY (pcs l) k x.c then 63 else 0)=0 then (if P<zS kind (zX (pcs l) k 0 x.c) then 61 else 0) else (if zQ kind P x.c=false then 62 else if 0≤jB (pcs l) k x.c∨0≤yY (pcs l) k x.c then 63 else 0):=by
   unfold k8;rw [Nat.add_zero]
   split
   ·rw [if_neg (by decide)]
   ·split
    ·rw [if_neg (by decide)]
    ·rw [if_pos rfl]
  have hmy:(if zQ kind P x.c=false then (62:Int) else if 0≤jB (pcs l) k x.c∨0≤yY (pcs l) k x.c then 63 else 0)=0→zQ kind P x.c=true:=fun e=>by
   split at e
   ·cases e
   ·rename_i h;simpa using h
  generalize (if zQ kind P x.c=false then (62:Int) else if 0≤jB (pcs l) k x.c∨0≤yY (pcs l) k x.c then 63 else 0)=Z at*
  have hbig:Z=0→xT (zX (pcs l) k 0 x.c)≤140737488355328:=fun e=>oD hk hP (hmy e);have hpw:xI kind pre k 0 x.c=false→PreOk kind (zX (pcs l) k 0 x.c) pre:=fun e=>mH hk.pre (by show k+0≤(pcs l).length;rw [zA];omega) (by omega) e;have han:xI kind pre k 0 x.c=(vZ kind k|| !jG x.c.key pre):=rfl
  have hpcs:∀y:CV,y.c=x.c→pcs (l.take k++y::l.drop k)=zX (pcs l) k 0 x.c:=fun y hy=>by
   have:=dE l k 0 y
   rw [Nat.add_zero,hy] at this;exact this
  have hpk0:pre.length≤1000000:=by omega
  have hfin2:∀w',Sep w0 w' (pkB p kind P (.slice U l.length uc) (.slice PV pre.length pvc) used waste::zB (.slice PV pre.length pvc) pre::zP 43 5 (.slice U l.length uc) l.length (zF l)::(zG l++L))→PgK w0 w' L p P kind ⟨pcs l,pre,waste⟩:=fun w' h=>HF.out w' (h.perm ((List.Perm.swap _ _ _).cons _))
  have hChg:Z=0→∀(W:World) (B K2 V2:Option Addr) (c7 kc vc bx:Nat) (o1:List Value) (y:CV),y.c=x.c→y.kv= .slice K2 x.c.key.length kc→y.vv= .slice V2 x.c.val.length vc→
   Sep w0 W (zP 43 5 (.slice B (l.length+1) c7) (l.length+1) (zF (l.take k++y::l.drop k))::zB y.kv y.c.key::zB y.vv y.c.val::z7 bx 43 o1::pkB p kind P (.slice U l.length uc) (.slice PV pre.length pvc) used waste::zP 43 5 (.slice U l.length uc) l.length (zF l)::zB (.slice PV pre.length pvc) pre::(zG l++L))→
   Calls Tryz.prog 228 #[.pointer (some ⟨p,0,none⟩),.slice B (l.length+1) c7,.int .i64 0,.bool (xI kind pre k 0 x.c)] W (fun e w'=>bC w0 L p P kind (yR kind P (pcs l) (k:Int) 0 x.c) (jC kind P ⟨pcs l,pre,waste⟩ (k:Int) 0 x.c) e w'∧OBlk w' bx 43 o1):=fun hZ W B K2 V2 c7 kc vc bx o1 y hy hy1 hy2 h=>by
   have hlN:(l.take k++y::l.drop k).length=l.length+1:=by simp only [List.length_append,List.length_cons,List.length_take,List.length_drop];omega
   have hry:RngC (l.take k++y::l.drop k):=hr.with_ (y:=y) (by rw [hy];exact ⟨hx.r1,hx.r2,hx.r3⟩) k k;have h2:Sep w0 W (pkB p kind P (.slice U l.length uc) (.slice PV pre.length pvc) used waste::zB (.slice PV pre.length pvc) pre::zP 43 5 (.slice B (l.length+1) c7) (l.length+1) (zF (l.take k++y::l.drop k))::zB y.kv y.c.key::zB y.vv y.c.val::z7 bx 43 o1::zP 43 5 (.slice U l.length uc) l.length (zF l)::(zG l++L)):=Sep.pick (L:= [_,_,_,_,_,_,_]) [4,6,0,1,2,3,5] (by decide) rfl h
   have hc:=zEO (E0:=z7 bx 43 o1) (by simp) (L:=L) (l':=l.take k++y::l.drop k) (sOld:=⟨pcs l,pre,waste⟩) 0 0 rfl (xI kind pre k 0 x.c) h2 (lU (by rw [hlN];exact List.mem_cons_self ..) (fun E hE=>by rcases uU hE with rfl|rfl|h<;>simp [*]) hry) (hpcs y hy) hry (hbig hZ) (by omega) hpk0 hP hpw
    (fun w' h=>hfin2 w' (h.sub ((((((List.Sublist.refl (zP 43 5 (.slice U l.length uc) l.length (zF l)::(zG l++L))).cons _).cons _).cons _).cons _).cons_cons _|>.cons_cons _)))
    (fun w' pv' used' waste' pre' h=>by
     have h3:=h.sub (L':=pkB p kind P (.slice B (l.length+1) c7) pv' used' waste'::zB pv' pre'::zP 43 5 (.slice B (l.length+1) c7) (l.length+1) (zF (l.take k++y::l.drop k))::zB y.kv y.c.key::zB y.vv y.c.val::(zG l++L)) ((((((List.Sublist.refl (zG l++L)).cons _).cons _).cons_cons _).cons_cons _).cons_cons _|>.cons_cons _|>.cons_cons _);have h4:=Sep.csIns hlN (Sep.push2b (Sep.pick (L:= [_,_,_,_,_]) [3,4,2,0,1] (by decide) rfl h3))
     exact Sep.pkShut h4.sw1)
   rw [hz,hpt,if_pos hZ]
   by_cases hzz:P<zS kind (zX (pcs l) k 0 x.c)
   ·rw [if_pos hzz] at hc⊢;rw [if_pos hzz] at hc;rw [hzn (by rw [hpt,if_pos hZ,if_pos hzz];decide)];exact hc
   ·rw [if_neg hzz] at hc⊢;rw [if_neg hzz] at hc;rw [hzs (by rw [hpt,if_pos hZ,if_neg hzz])];exact hc
  rw [←hz];have hzz:Z≠0→yR kind P (pcs l) (k:Int) 0 x.c=Z∧jC kind P ⟨pcs l,pre,waste⟩ (k:Int) 0 x.c=⟨pcs l,pre,waste⟩:=fun h=>⟨by rw [hz,hpt,if_neg h],hzn (by rw [hpt,if_neg h];exact h)⟩;generalize jC kind P ⟨pcs l,pre,waste⟩ (k:Int) 0 x.c=SS at*;generalize yR kind P (pcs l) (k:Int) 0 x.c=ZZ at*;generalize xI kind pre k 0 x.c=an at*;have HCH:=Lib.hid hChg;have HZZ:=Lib.hid hzz;have HX:=Lib.hid hx;clear hChg hpcs hzs hzn hx hpt hmy hbig hpw hzz hz hk hS hS0 hin hfin2
  have i1:¬(k:Int)<0:=by omega
  have i2:¬(l.length:Int)<(k:Int):=by omega
  have i3:IntKind.i64.wrap ((k:Int)-1)=(k:Int)-1:=by rw [IntKind.wrap_i64];omega
  obtain ⟨KA,ka,VA,va,key,ck,val,pg,ct,rfl,-,-⟩:=CV.form hx1;simp only at hx1 hS1 hxm hrf han
  have HCH2:Hid (Z=0→∀(W:World) (B K2 V2:Option Addr) (c7 kc vc bx:Nat),Sep w0 W ([zP 43 5 (.slice B (l.length+1) c7) (l.length+1) (zF (l.take k++(⟨.slice K2 key.length kc,.slice V2 val.length vc,⟨key,ck,val,pg,ct⟩⟩:CV)::l.drop k)),zB (.slice K2 key.length kc) key,zB (.slice V2 val.length vc) val]++jM p P used waste bx kind U PV KA VA uc pvc ka va l pre key val ck pg ct L)→
   Calls Tryz.prog 228 #[.pointer (some ⟨p,0,none⟩),.slice B (l.length+1) c7,.int .i64 0,.bool an] W (fun e w'=>bC w0 L p P kind ZZ SS e w'∧OBlk w' bx 43 [.slice KA key.length ka,.int .i64 ck,.slice VA val.length va,.int .i64 pg,.int .i64 ct])):=Lib.hid (fun hZ W B K2 V2 c7 kc vc bx h=>HCH.out hZ W B K2 V2 c7 kc vc bx _ ⟨.slice K2 key.length kc,.slice V2 val.length vc,⟨key,ck,val,pg,ct⟩⟩ rfl rfl rfl h)
  clear HCH;unfold zJ at hrf⊢;simp only at hrf⊢;go_enter Tryz.func219,Tryz.ntmps219
  go_upto_region 4 with (first
   |(go_at_call 227;(with_reducible refine hrf.mono ?_);rintro e w2 ⟨rfl,hw2⟩)
   |fail)
  have hS2:=hS1.below hw2;clear hrf hS1 hw2 hbp b0 b1 b2 b3 b4 b5 hx1 hrd hxm;obtain ⟨bx,hbx⟩:∃b,w.heap.size=b:=⟨_,rfl⟩;rw [hbx] at hS2⊢;clear hbx;have hS2:Sep w0 w2 ([]++jM p P used waste bx kind U PV KA VA uc pvc ka va l pre key val ck pg ct L):=hS2
  by_cases hZ:Z=0
  ·subst hZ;have HCH3:=Lib.hid (HCH2.out rfl);clear HCH2 HZZ;obtain ⟨⟨c0,c1,c2,c3,c4⟩,b0,b1,b2,b3,b4,b5⟩:=fQ hS2;obtain ⟨fk,hfk⟩:∃fk,vZ kind k=fk:=⟨_,rfl⟩;rw [hfk] at han;have HFK:=Lib.hid hfk;clear hfk;go_upto_region 6 with (fail)
   go_cut [8] (fun s wx=>s= .bool fk∧wx=w2)
   case first=>
    by_cases h3:kind=3
    ·have e1:(kind==3)=true:=by simp [h3]
     by_cases h0:k=0
     ·have e2:((k:Int)==0)=true:=by simp [h0]
      have e3:fk=true:=HFK.out.symm.trans (decide_eq_true ⟨h3,h0⟩);have E3:=Lib.hid e3;clear h3 h0 e3;go_wp2_with fail;go_meet;exact ⟨by rw [E3.out],rfl⟩
     ·have e2:((k:Int)==0)=false:=beq_eq_false_iff_ne.2 (by omega);have e3:fk=false:=HFK.out.symm.trans (decide_eq_false (fun h=>h0 h.2));have E3:=Lib.hid e3;clear h3 h0 e3;go_wp2_with fail;go_meet;exact ⟨by rw [E3.out],rfl⟩
    ·have e1:(kind==3)=false:=beq_eq_false_iff_ne.2 h3;have e3:fk=false:=HFK.out.symm.trans (decide_eq_false (fun h=>h3 h.1));have E3:=Lib.hid e3;clear h3 e3;go_wp2_with fail;go_meet;exact ⟨by rw [E3.out],rfl⟩
   case rest=>
    obtain ⟨rfl,rfl⟩:=hcut;have hCl:=aF (M:= []) hS2.drew hr (by omega)
    have hl1:l.length≤1000000:=by omega
    have HS:=fQ (M:= []) hS2.drew;have HKL:=Lib.hid hkl;have HL1:=Lib.hid hl1;clear hS2 HF hlen hn1 hn2 hn3 hpk0 hkd hP hi64 i1 i2 i3 hm hc HFK hkl hl1
    cases fk with
    |true=>
     obtain rfl:an=true:=by rw [han];rfl
     clear han;go_upto_region 7 with (fail);refine jJ 22 (fun w'=>Fct w' p P used waste bx kind U PV KA VA uc pvc ka va l pre key val ck pg ct) (by kernel_rfl) (by kernel_rfl) (by kernel_rfl) (by kernel_rfl) (by kernel_rfl) ?_;refine zH 0 (v:= ?_) rfl (by kernel_rfl) (by kernel_rfl) (by kernel_rfl) (fun _ _ _ h=>h) (by rfl) HS ?_ ?_
     rotate_left
     ·intro w hSw;obtain ⟨⟨c0,c1,c2,c3,c4⟩,b0,b1,b2,b3,b4,b5⟩:=hSw;go_simp;try with_reducible rfl
     try simp only [Act.put,List.setIfInBounds_toArray,List.set_cons_zero,List.set_cons_succ]
     refine zH 1 (v:= ?_) rfl (by kernel_rfl) (by kernel_rfl) (by kernel_rfl) (fun _ _ _ h=>h) (by rfl) HS ?_ ?_
     rotate_left
     ·intro w hSw;obtain ⟨⟨c0,c1,c2,c3,c4⟩,b0,b1,b2,b3,b4,b5⟩:=hSw;go_simp;try with_reducible rfl
     try simp only [Act.put,List.setIfInBounds_toArray,List.set_cons_zero,List.set_cons_succ]
     refine zH 2 (v:= ?_) rfl (by kernel_rfl) (by kernel_rfl) (by kernel_rfl) (fun _ _ _ h=>h) (by rfl) HS ?_ ?_
     rotate_left
     ·intro w hSw;obtain ⟨⟨c0,c1,c2,c3,c4⟩,b0,b1,b2,b3,b4,b5⟩:=hSw;go_simp;try with_reducible rfl
     try simp only [Act.put,List.setIfInBounds_toArray,List.set_cons_zero,List.set_cons_succ]
     refine zH 3 (v:= ?_) rfl (by kernel_rfl) (by kernel_rfl) (by kernel_rfl) (fun _ _ _ h=>h) (by rfl) HS ?_ ?_
     rotate_left
     ·intro w hSw;obtain ⟨⟨c0,c1,c2,c3,c4⟩,b0,b1,b2,b3,b4,b5⟩:=hSw;go_simp;try with_reducible rfl
     try simp only [Act.put,List.setIfInBounds_toArray,List.set_cons_zero,List.set_cons_succ]
     refine zH 4 (v:= ?_) rfl (by kernel_rfl) (by kernel_rfl) (by kernel_rfl) (fun _ _ _ h=>h) (by rfl) HS ?_ ?_
     rotate_left
     ·intro w hSw;obtain ⟨⟨c0,c1,c2,c3,c4⟩,b0,b1,b2,b3,b4,b5⟩:=hSw;go_simp;try with_reducible rfl
     try simp only [Act.put,List.setIfInBounds_toArray,List.set_cons_zero,List.set_cons_succ]
     refine zH 6 (v:= ?_) rfl (by kernel_rfl) (by kernel_rfl) (by kernel_rfl) (fun _ _ _ h=>h) (by rfl) HS ?_ ?_
     rotate_left
     ·intro w hSw;obtain ⟨⟨c0,c1,c2,c3,c4⟩,b0,b1,b2,b3,b4,b5⟩:=hSw;go_simp;try with_reducible rfl
     try simp only [Act.put,List.setIfInBounds_toArray,List.set_cons_zero,List.set_cons_succ]
     refine zH 7 (v:= ?_) rfl (by kernel_rfl) (by kernel_rfl) (by kernel_rfl) (fun _ _ _ h=>h) (by rfl) HS ?_ ?_
     rotate_left
     ·intro w hSw;obtain ⟨⟨c0,c1,c2,c3,c4⟩,b0,b1,b2,b3,b4,b5⟩:=hSw;go_simp;try with_reducible rfl
     try simp only [Act.put,List.setIfInBounds_toArray,List.set_cons_zero,List.set_cons_succ]
     refine zH 11 (v:= ?_) rfl (by kernel_rfl) (by kernel_rfl) (by kernel_rfl) (fun _ _ _ h=>h) (by rfl) HS ?_ ?_
     rotate_left
     ·intro w hSw;obtain ⟨⟨c0,c1,c2,c3,c4⟩,b0,b1,b2,b3,b4,b5⟩:=hSw;go_simp;try with_reducible rfl
     try simp only [Act.put,List.setIfInBounds_toArray,List.set_cons_zero,List.set_cons_succ]
     refine jU 5 rfl (by kernel_rfl) (by kernel_rfl) (fun K hK=> ?_)
     go_simp
     go_at_call 229
     refine hCl.mono ?_;rintro e w3 ⟨N3,n3,rfl,hA3⟩;refine hK.out _ _ ?_ (fun HS=> ?_)
     ·exact fQ hA3
     clear hK K;refine jU 8 rfl (by kernel_rfl) (by kernel_rfl) (fun K hK=> ?_)
     go_simp
     go_at_call 225
     refine (zAQ hA3 HX.out).mono ?_;rintro e w6 ⟨K2,kc,V2,vc,rfl,hA6⟩;refine hK.out _ _ ?_ (fun HS=> ?_)
     ·exact fQ hA6
     clear hK K;refine jU 9 rfl (by kernel_rfl) (by kernel_rfl) (fun K hK=> ?_)
     go_simp
     skip
     refine hK.out _ _ ?_ (fun HS=> ?_)
     ·exact zHR hA6 _
     clear hK K;refine jU 10 rfl (by kernel_rfl) (by kernel_rfl) (fun K hK=> ?_)
     go_simp
     go_at_call 209
     refine (zF6 hA6 hr HL1.out k HKL.out).mono ?_;rintro e w7 ⟨B7,c7,rfl,hA7⟩;refine hK.out _ _ ?_ (fun HS=> ?_)
     ·exact fQ hA7
     clear hK K;refine zH 12 (v:= ?_) rfl (by kernel_rfl) (by kernel_rfl) (by kernel_rfl) (fun _ _ _ h=>h) (by rfl) HS ?_ ?_
     rotate_left
     ·intro w hSw;obtain ⟨⟨c0,c1,c2,c3,c4⟩,b0,b1,b2,b3,b4,b5⟩:=hSw;go_simp;try with_reducible rfl
     try simp only [Act.put,List.setIfInBounds_toArray,List.set_cons_zero,List.set_cons_succ]
     refine zU 13 rfl (by kernel_rfl) (by kernel_rfl) (by kernel_rfl) (fun _ _ _ h=>h) (by rfl) HS ?_
     try simp only [Act.put,List.setIfInBounds_toArray,List.set_cons_zero,List.set_cons_succ]
     refine zU 14 rfl (by kernel_rfl) (by kernel_rfl) (by kernel_rfl) (fun _ _ _ h=>h) (by rfl) HS ?_
     try simp only [Act.put,List.setIfInBounds_toArray,List.set_cons_zero,List.set_cons_succ]
     refine zU 15 rfl (by kernel_rfl) (by kernel_rfl) (by kernel_rfl) (fun _ _ _ h=>h) (by rfl) HS ?_
     try simp only [Act.put,List.setIfInBounds_toArray,List.set_cons_zero,List.set_cons_succ]
     refine zU 16 rfl (by kernel_rfl) (by kernel_rfl) (by kernel_rfl) (fun _ _ _ h=>h) (by rfl) HS ?_
     try simp only [Act.put,List.setIfInBounds_toArray,List.set_cons_zero,List.set_cons_succ]
     refine zU 17 rfl (by kernel_rfl) (by kernel_rfl) (by kernel_rfl) (fun _ _ _ h=>h) (by rfl) HS ?_
     try simp only [Act.put,List.setIfInBounds_toArray,List.set_cons_zero,List.set_cons_succ]
     refine zU 18 rfl (by kernel_rfl) (by kernel_rfl) (by kernel_rfl) (fun _ _ _ h=>h) (by rfl) HS ?_
     try simp only [Act.put,List.setIfInBounds_toArray,List.set_cons_zero,List.set_cons_succ]
     refine zU 19 rfl (by kernel_rfl) (by kernel_rfl) (by kernel_rfl) (fun _ _ _ h=>h) (by rfl) HS ?_
     try simp only [Act.put,List.setIfInBounds_toArray,List.set_cons_zero,List.set_cons_succ]
     refine zU 20 rfl (by kernel_rfl) (by kernel_rfl) (by kernel_rfl) (fun _ _ _ h=>h) (by rfl) HS ?_
     try simp only [Act.put,List.setIfInBounds_toArray,List.set_cons_zero,List.set_cons_succ]
     refine zH 21 (v:= ?_) rfl (by kernel_rfl) (by kernel_rfl) (by kernel_rfl) (fun _ _ _ h=>h) (by rfl) HS ?_ ?_
     rotate_left
     ·intro w hSw;obtain ⟨⟨c0,c1,c2,c3,c4⟩,b0,b1,b2,b3,b4,b5⟩:=hSw;go_simp;try with_reducible rfl
     try simp only [Act.put,List.setIfInBounds_toArray,List.set_cons_zero,List.set_cons_succ]
     refine fB (by kernel_rfl) ?_;simp only [List.drop_succ_cons,List.drop_zero]
     go_wp2_with (first
      |(go_at_call 228;refine (HCH3.out _ _ _ _ _ _ _ _ hA7).mono ?_;rintro e w9 ⟨⟨rfl,hfin9⟩,hbx9⟩)
      |fail)
     go_ret;exact ⟨rfl,hfin9⟩
    |false=>
     obtain rfl:an= !jG key pre:=by rw [han];rfl
     clear han;go_upto_region 7 with (fail);refine jJ 22 (fun w'=>Fct w' p P used waste bx kind U PV KA VA uc pvc ka va l pre key val ck pg ct) (by kernel_rfl) (by kernel_rfl) (by kernel_rfl) (by kernel_rfl) (by kernel_rfl) ?_;refine zH 0 (v:= ?_) rfl (by kernel_rfl) (by kernel_rfl) (by kernel_rfl) (fun _ _ _ h=>h) (by rfl) HS ?_ ?_
     rotate_left
     ·intro w hSw;obtain ⟨⟨c0,c1,c2,c3,c4⟩,b0,b1,b2,b3,b4,b5⟩:=hSw;go_simp;try with_reducible rfl
     try simp only [Act.put,List.setIfInBounds_toArray,List.set_cons_zero,List.set_cons_succ]
     refine zH 1 (v:= ?_) rfl (by kernel_rfl) (by kernel_rfl) (by kernel_rfl) (fun _ _ _ h=>h) (by rfl) HS ?_ ?_
     rotate_left
     ·intro w hSw;obtain ⟨⟨c0,c1,c2,c3,c4⟩,b0,b1,b2,b3,b4,b5⟩:=hSw;go_simp;try with_reducible rfl
     try simp only [Act.put,List.setIfInBounds_toArray,List.set_cons_zero,List.set_cons_succ]
     refine zH 2 (v:= ?_) rfl (by kernel_rfl) (by kernel_rfl) (by kernel_rfl) (fun _ _ _ h=>h) (by rfl) HS ?_ ?_
     rotate_left
     ·intro w hSw;obtain ⟨⟨c0,c1,c2,c3,c4⟩,b0,b1,b2,b3,b4,b5⟩:=hSw;go_simp;try with_reducible rfl
     try simp only [Act.put,List.setIfInBounds_toArray,List.set_cons_zero,List.set_cons_succ]
     refine zH 3 (v:= ?_) rfl (by kernel_rfl) (by kernel_rfl) (by kernel_rfl) (fun _ _ _ h=>h) (by rfl) HS ?_ ?_
     rotate_left
     ·intro w hSw;obtain ⟨⟨c0,c1,c2,c3,c4⟩,b0,b1,b2,b3,b4,b5⟩:=hSw;go_simp;try with_reducible rfl
     try simp only [Act.put,List.setIfInBounds_toArray,List.set_cons_zero,List.set_cons_succ]
     refine zH 4 (v:= ?_) rfl (by kernel_rfl) (by kernel_rfl) (by kernel_rfl) (fun _ _ _ h=>h) (by rfl) HS ?_ ?_
     rotate_left
     ·intro w hSw;obtain ⟨⟨c0,c1,c2,c3,c4⟩,b0,b1,b2,b3,b4,b5⟩:=hSw;go_simp;try with_reducible rfl
     try simp only [Act.put,List.setIfInBounds_toArray,List.set_cons_zero,List.set_cons_succ]
     refine zH 6 (v:= ?_) rfl (by kernel_rfl) (by kernel_rfl) (by kernel_rfl) (fun _ _ _ h=>h) (by rfl) HS ?_ ?_
     rotate_left
     ·intro w hSw;obtain ⟨⟨c0,c1,c2,c3,c4⟩,b0,b1,b2,b3,b4,b5⟩:=hSw;go_simp;try with_reducible rfl
     try simp only [Act.put,List.setIfInBounds_toArray,List.set_cons_zero,List.set_cons_succ]
     refine zH 7 (v:= ?_) rfl (by kernel_rfl) (by kernel_rfl) (by kernel_rfl) (fun _ _ _ h=>h) (by rfl) HS ?_ ?_
     rotate_left
     ·intro w hSw;obtain ⟨⟨c0,c1,c2,c3,c4⟩,b0,b1,b2,b3,b4,b5⟩:=hSw;go_simp;try with_reducible rfl
     try simp only [Act.put,List.setIfInBounds_toArray,List.set_cons_zero,List.set_cons_succ]
     refine zH 11 (v:= ?_) rfl (by kernel_rfl) (by kernel_rfl) (by kernel_rfl) (fun _ _ _ h=>h) (by rfl) HS ?_ ?_
     rotate_left
     ·intro w hSw;obtain ⟨⟨c0,c1,c2,c3,c4⟩,b0,b1,b2,b3,b4,b5⟩:=hSw;go_simp;try with_reducible rfl
     try simp only [Act.put,List.setIfInBounds_toArray,List.set_cons_zero,List.set_cons_succ]
     refine jU 5 rfl (by kernel_rfl) (by kernel_rfl) (fun K hK=> ?_)
     go_simp
     go_at_call 229
     refine hCl.mono ?_;rintro e w3 ⟨N3,n3,rfl,hA3⟩;refine hK.out _ _ ?_ (fun HS=> ?_)
     ·exact fQ hA3
     clear hK K;refine jU 8 rfl (by kernel_rfl) (by kernel_rfl) (fun K hK=> ?_)
     go_simp
     go_at_call 225
     refine (zAQ hA3 HX.out).mono ?_;rintro e w6 ⟨K2,kc,V2,vc,rfl,hA6⟩;refine hK.out _ _ ?_ (fun HS=> ?_)
     ·exact fQ hA6
     clear hK K;refine jU 9 rfl (by kernel_rfl) (by kernel_rfl) (fun K hK=> ?_)
     go_simp
     skip
     refine hK.out _ _ ?_ (fun HS=> ?_)
     ·exact zHR hA6 _
     clear hK K;refine jU 10 rfl (by kernel_rfl) (by kernel_rfl) (fun K hK=> ?_)
     go_simp
     go_at_call 209
     refine (zF6 hA6 hr HL1.out k HKL.out).mono ?_;rintro e w7 ⟨B7,c7,rfl,hA7⟩;refine hK.out _ _ ?_ (fun HS=> ?_)
     ·exact fQ hA7
     clear hK K;refine zH 12 (v:= ?_) rfl (by kernel_rfl) (by kernel_rfl) (by kernel_rfl) (fun _ _ _ h=>h) (by rfl) HS ?_ ?_
     rotate_left
     ·intro w hSw;obtain ⟨⟨c0,c1,c2,c3,c4⟩,b0,b1,b2,b3,b4,b5⟩:=hSw;go_simp;try with_reducible rfl
     try simp only [Act.put,List.setIfInBounds_toArray,List.set_cons_zero,List.set_cons_succ]
     refine zH 13 (v:= ?_) rfl (by kernel_rfl) (by kernel_rfl) (by kernel_rfl) (fun _ _ _ h=>h) (by rfl) HS ?_ ?_
     rotate_left
     ·intro w hSw;obtain ⟨⟨c0,c1,c2,c3,c4⟩,b0,b1,b2,b3,b4,b5⟩:=hSw;go_simp;try with_reducible rfl
     try simp only [Act.put,List.setIfInBounds_toArray,List.set_cons_zero,List.set_cons_succ]
     refine zH 14 (v:= ?_) rfl (by kernel_rfl) (by kernel_rfl) (by kernel_rfl) (fun _ _ _ h=>h) (by rfl) HS ?_ ?_
     rotate_left
     ·intro w hSw;obtain ⟨⟨c0,c1,c2,c3,c4⟩,b0,b1,b2,b3,b4,b5⟩:=hSw;go_simp;try with_reducible rfl
     try simp only [Act.put,List.setIfInBounds_toArray,List.set_cons_zero,List.set_cons_succ]
     refine zH 15 (v:= ?_) rfl (by kernel_rfl) (by kernel_rfl) (by kernel_rfl) (fun _ _ _ h=>h) (by rfl) HS ?_ ?_
     rotate_left
     ·intro w hSw;obtain ⟨⟨c0,c1,c2,c3,c4⟩,b0,b1,b2,b3,b4,b5⟩:=hSw;go_simp;try with_reducible rfl
     try simp only [Act.put,List.setIfInBounds_toArray,List.set_cons_zero,List.set_cons_succ]
     refine zH 16 (v:= ?_) rfl (by kernel_rfl) (by kernel_rfl) (by kernel_rfl) (fun _ _ _ h=>h) (by rfl) HS ?_ ?_
     rotate_left
     ·intro w hSw;obtain ⟨⟨c0,c1,c2,c3,c4⟩,b0,b1,b2,b3,b4,b5⟩:=hSw;go_simp;try with_reducible rfl
     try simp only [Act.put,List.setIfInBounds_toArray,List.set_cons_zero,List.set_cons_succ]
     refine zH 17 (v:= ?_) rfl (by kernel_rfl) (by kernel_rfl) (by kernel_rfl) (fun _ _ _ h=>h) (by rfl) HS ?_ ?_
     rotate_left
     ·intro w hSw;obtain ⟨⟨c0,c1,c2,c3,c4⟩,b0,b1,b2,b3,b4,b5⟩:=hSw;go_simp;try with_reducible rfl
     try simp only [Act.put,List.setIfInBounds_toArray,List.set_cons_zero,List.set_cons_succ]
     refine zH 18 (v:= ?_) rfl (by kernel_rfl) (by kernel_rfl) (by kernel_rfl) (fun _ _ _ h=>h) (by rfl) HS ?_ ?_
     rotate_left
     ·intro w hSw;obtain ⟨⟨c0,c1,c2,c3,c4⟩,b0,b1,b2,b3,b4,b5⟩:=hSw;go_simp;try with_reducible rfl
     try simp only [Act.put,List.setIfInBounds_toArray,List.set_cons_zero,List.set_cons_succ]
     refine jU 19 rfl (by kernel_rfl) (by kernel_rfl) (fun K hK=> ?_)
     go_simp
     go_at_call 230
     refine (zEH hA7 HX.out).mono ?_;rintro e w8 ⟨rfl,rfl⟩;refine hK.out _ _ ?_ (fun HS=> ?_)
     ·exact fQ hA7
     clear hK K;refine zH 20 (v:= ?_) rfl (by kernel_rfl) (by kernel_rfl) (by kernel_rfl) (fun _ _ _ h=>h) (by rfl) HS ?_ ?_
     rotate_left
     ·intro w hSw;obtain ⟨⟨c0,c1,c2,c3,c4⟩,b0,b1,b2,b3,b4,b5⟩:=hSw;go_simp;try with_reducible rfl
     try simp only [Act.put,List.setIfInBounds_toArray,List.set_cons_zero,List.set_cons_succ]
     refine zH 21 (v:= ?_) rfl (by kernel_rfl) (by kernel_rfl) (by kernel_rfl) (fun _ _ _ h=>h) (by rfl) HS ?_ ?_
     rotate_left
     ·intro w hSw;obtain ⟨⟨c0,c1,c2,c3,c4⟩,b0,b1,b2,b3,b4,b5⟩:=hSw;go_simp;try with_reducible rfl
     try simp only [Act.put,List.setIfInBounds_toArray,List.set_cons_zero,List.set_cons_succ]
     refine fB (by kernel_rfl) ?_;simp only [List.drop_succ_cons,List.drop_zero]
     go_wp2_with (first
      |(go_at_call 228;refine (HCH3.out _ _ _ _ _ _ _ _ hA7).mono ?_;rintro e w9 ⟨⟨rfl,hfin9⟩,hbx9⟩)
      |fail)
     go_ret;exact ⟨rfl,hfin9⟩
  ·have HZ:=Lib.hid hZ;go_wp2_with fail;go_ret;obtain ⟨h1,h2⟩:=HZZ.out HZ.out;rw [h1,h2];exact ⟨rfl,HF.out _ (hS2.tail)⟩
end Go.Proofs.YtfcnkpofcekmgaaGreat
