/- Texts joined. -/
import Derived.Test.YtfcnkpofcekmgaaGreatNQ32
import Derived.Test.YtfcnkpofcekmgaaGreatNQ37
import Derived.SizedLaws
import Derived.Carry
import Derived.Lib.SmallJoins
import Derived.WideKeyArgs
import Derived.Deep.Slices
import Derived.Deep.Fields
set_option maxRecDepth 100000
set_option maxHeartbeats 64000000
namespace Go.Proofs.YtfcnkpofcekmgaaGreat
open Go.RowKit Go.WideShapes Go.ChangeShapes Go.Joins
section
variable {H:Type} {enc:TypeId×Value→H} {P:Program}
theorem d7 (hl:laidOutB P=true) {W W':World} {sp':Nat→Bool}:∀{ts:List TypeId} {vs:List Value} {ds:List (DataW H)} {ps:List MemPlace},(ts.all fun t=>P.readableRec t&&decide (t<P.types.size))=true→
 DataW.TrodAll enc P W 0 (fun _=>true) true ts vs ds ps→(∀p∈ps,W.sameAt W' p)→(∀p∈ps,sp' p.block=true)→DataW.TrodAll enc P W' 0 sp' true ts vs ds ps
 | [],[],[],_,_,h,_,_=>h
 |t::ts,_::_,_::_,_,hr,⟨p,q,h1,h2,e⟩,hk,hs=>by
  simp only [List.all_cons,Bool.and_eq_true,decide_eq_true_eq] at hr;obtain ⟨⟨hr1,hr2⟩,hr3⟩:=hr
  exact ⟨p,q,WideElems.Trod_stays hl hr1 hr2 h1 (fun x hx=>hk x (by rw [e];exact List.mem_append_left _ hx)) (fun x hx=>hs x (by rw [e];exact List.mem_append_left _ hx)),
   d7 hl hr3 h2 (fun x hx=>hk x (by rw [e];exact List.mem_append_right _ hx)) (fun x hx=>hs x (by rw [e];exact List.mem_append_right _ hx)),e⟩
theorem pH {w:World} {base:Nat} {spare:Nat→Bool} {held:Bool}:∀{ts:List TypeId} {vs:List Value} {ds:List (DataW H)} {ps:List MemPlace},DataW.TrodAll enc P w base spare held ts vs ds ps→ds.length=ts.length
 | [],[],[],_,_=>rfl
 |_::_,_::_,_::_,_,⟨_,_,_,h2,_⟩=>by simp [pH h2]
theorem zFJ {fn:Func} {s:ChangeSpec} {tb:TypeId} {W W':World} {args:Array Value} {ds gs:List (DataW H)} {before:List MemPlace} (hvars:s.vars= []) (hrt:fn.resultTypes= #[tb]) (htb:P.underlying tb=some .bool) (hl:laidOutB P=true)
 (hr:(fn.params.toList.all fun t=>P.readableRec t&&decide (t<P.types.size))=true) (hs:∀ds:List (DataW H),ds.length=fn.params.size→s.fn H ds={results:= [.lit (.bool true)],args:=ds})
 (hW:DataW.Whole enc P fn.params.toList s.vars false W args.toList ds gs before) (hb:Below W.heap.size W W'):s.post enc P fn false true false false W args (.bool true) W':=by
 have hW':=hW;obtain ⟨p,q,hA,hV,rfl,hfz,hnd⟩:=hW;rw [hvars] at hV;obtain ⟨rfl,rfl⟩:=trodVars_none hV
 have hlen:ds.length=fn.params.size:=by simpa using pH hA
 have hfn:=hs ds hlen;have hlt:∀x∈p,x.block<W.heap.size:=fun x hx=>hW'.lt x (List.mem_append_left _ hx);refine tC (pa:=p) (pv:= []) hW' ?_ ?_ ?_ (by simp) hb (ok_one hrt rfl (okWide_bool_mk htb _))
 ·intro b sp hd;rw [List.append_nil,hfn,hrt];exact trodAll_cons_mk (shut_bool htb _) trodAll_mk0
 ·intro sp hsp;rw [List.append_nil,hfn];exact d7 hl hr hA (fun x hx=>hb.same (hlt x hx)) (fun x hx=>hsp x (List.mem_append_left _ hx))
 ·intro sp _;rw [List.append_nil,hfn,hvars];exact (rfl:DataW.TrodVars enc P W' sp [] [] [])
end
theorem zBZ {H:Type} {enc:TypeId×Value→H} {C:Checked} {os:Os} {fno:FuncId} {fn:Func} {s:ChangeSpec} {conds:List PathCond} {tb:TypeId}
 (own:ownKnob C.prog.godebug=none) (started:os.Started) (noInit:C.prog.inits.idxOf? fno=none) (hfn:C.prog.funcs[fno]? =some fn)
 (witness:∃(w:World) (tape:Tape) (i:Input),w.os=os∧(w.forCall tape i).Shaped C.prog∧i.vars= []∧Input.okWide C.prog (w.forCall tape i) .any w.heap.size fno i∧
  s.pre6 enc C.prog fn conds false (w.forCall tape i).memory i.args∧({}:Assume).holds C.prog (lone (Frame.enter C.prog fno i.args .normal) [] (w.forCall tape i)))
 (hvars:s.vars= []) (hrt:fn.resultTypes= #[tb]) (htb:C.prog.underlying tb=some .bool) (hl:laidOutB C.prog=true)
 (hr:(fn.params.toList.all fun t=>C.prog.readableRec t&&decide (t<C.prog.types.size))=true) (hs:∀ds:List (DataW H),ds.length=fn.params.size→s.fn H ds={results:= [.lit (.bool true)],args:=ds})
 (walk:∀(W:World) (base:Nat) (args:Array Value) (ds:List (DataW H)) (p:List MemPlace),(∀(j:Nat) t v,fn.params[j]? =some t→args[j]? =some v→Value.okWide C.prog W .any base t v)→
  DataW.TrodAll enc C.prog W 0 (fun _=>true) true fn.params.toList args.toList ds p→(DataW.weightsEach C.prog fn.params.toList ds).all (· ≤reachBytes)=true→
  Calls C.prog fno args W fun e W'=>e= .returned (.bool true)∧Below W.heap.size W W'):
 ReturnsInHanded {} C os fno .any (s.pre6 enc C.prog fn conds false) (s.post enc C.prog fn false true false false):=by
 refine returnsInHanded_of_change_sized own started noInit hfn witness ?_;intro W base args ds gs before hval hW _ hsz _;have hW':=hW;obtain ⟨p,q,hA,hV,_,_,_⟩:=hW;rw [hvars] at hV;obtain ⟨rfl,rfl⟩:=trodVars_none hV
 have hv:s.plain.varTypes C.prog= []:=by
  unfold ChangeSpec.plain DataSpec.varTypes;simp [hvars]
 rw [hv,List.append_nil,List.append_nil] at hsz;refine (walk W base args ds p hval hA hsz).mono fun e W' h=> ?_;obtain ⟨rfl,hb⟩:=h;exact ⟨_,rfl,zFJ hvars hrt htb hl hr hs hW' hb⟩
section
variable {H:Type} {enc:TypeId×Value→H} {W:World}
theorem zFF:Tryz.prog.cellsOf 5=1:=by kernel_rfl
theorem sM:Tryz.prog.bytesOf 5=1:=by kernel_rfl
end
end Go.Proofs.YtfcnkpofcekmgaaGreat
namespace Go.Proofs.YtfcnkpofcekmgaaGreat
open Go.RowKit Go.WideShapes Go.ChangeShapes Go.Deep
section
variable {H:Type} {enc:TypeId×Value→H} {W:World}
theorem cM {fuel:Nat} {cs:List Value} {x:DataW H×List MemPlace} (h:DataW.trod enc Tryz.prog W 0 (fun _=>true) true fuel 41 cs=some x):
 ∃(v:Value) (l:List UInt8),cs= [v]∧RdB W v l∧((x.1= .nil∧l= [])∨∃e s,x.1= .slice e s∧l.length≤e.length+s.length):=by
 rcases open_ints Tryz.underlying41 Tryz.underlying5 zFF h with ⟨rfl,rfl⟩|⟨a,len,cap,zs,rfl,_,hl,hm,hz,rfl,hcell,hwz⟩
 ·exact ⟨_,[],rfl,RdB.nil,.inl ⟨rfl,rfl⟩⟩
 ·simp only [if_true] at hz
  have hlen:((zs.take len).map fun z=>UInt8.ofNat z.toNat).length=len:=by simp;omega
  refine ⟨_,(zs.take len).map fun z=>UInt8.ofNat z.toNat,rfl,⟨some a,cap,by rw [hlen],by rw [hlen];exact hl,hm,fun j hj=>⟨a,rfl,?_⟩⟩,.inr ⟨_,_,rfl,by rw [hlen];simp [lits];omega⟩⟩;rw [hlen] at hj;rw [hcell j (by omega)]
  have hjz:j<zs.length:=by omega
  have hw:=hwz _ (List.getElem_mem hjz)
  have hg:zs.getD j 0=zs[j]:=by simp [List.getD,hjz]
  rw [hg];simp [Lit.wf,IntKind.min,IntKind.max,IntKind.signed,IntKind.bits] at hw
  simp
  omega
theorem fV {fuel:Nat} {cs:List Value} {x:DataW H×List MemPlace} (h:DataW.trod enc Tryz.prog W 0 (fun _=>true) true fuel 3 cs=some x):∃n:Int,cs= [.int .i64 n]∧ -9223372036854775808≤n∧n≤9223372036854775807:=by
 obtain ⟨n,rfl,_,hw⟩:=DataW.trod_int Tryz.underlying3 h;simp [Lit.wf,IntKind.min,IntKind.max,IntKind.signed,IntKind.bits] at hw;exact ⟨n,rfl,hw⟩
theorem d6 {P:Program} {e:TypeId}:∀{l:List (DataW H)} {d:DataW H},d∈l→∀n∈d.weights P e,n∈DataW.weightsAll P e l
 | [],_,h=>by cases h
 |x::r,d,h=>by
  intro n hn;rw [DataW.weightsAll,List.mem_append];rcases List.mem_cons.1 h with rfl|h
  ·exact .inl hn
  ·exact .inr (d6 h n hn)
theorem eY:Tryz.prog.cellsOf 43=5:=by kernel_rfl
theorem zC7 {fuel:Nat} {cs:List Value} {x:DataW H×List MemPlace} (h:DataW.trod enc Tryz.prog W 0 (fun _=>true) true fuel 43 cs=some x):
 ∃o:CV,cs=o.cells∧o.ok W∧∃y0 y1 y2 y3 y4,x.1= .agg [y0,y1,y2,y3,y4]∧((y0= .nil∧o.c.key= [])∨∃e s,y0= .slice e s∧o.c.key.length≤e.length+s.length)∧((y2= .nil∧o.c.val= [])∨∃e s,y2= .slice e s∧o.c.val.length≤e.length+s.length):=by
 obtain ⟨xs,n,_,rfl,hcl,hxl,hg⟩:=DataW.trod_struct Tryz.underlying43 h;rw [eY] at hcl
 match cs,hcl with
 | [c0,c1,c2,c3,c4],_=>
  match xs,hxl with
  | [z0,z1,z2,z3,z4],_=>
   have g0:=hg 0 _ rfl;have g1:=hg 1 _ rfl;have g2:=hg 2 _ rfl;have g3:=hg 3 _ rfl;have g4:=hg 4 _ rfl;obtain ⟨kv,key,e0,hd,w0⟩:=cM (cs:= [c0]) g0;obtain ⟨k,e1,r1⟩:=fV (cs:= [c1]) g1;obtain ⟨vv,val,e2,hv,w2⟩:=cM (cs:= [c2]) g2;obtain ⟨pg,e3,r3⟩:=fV (cs:= [c3]) g3;obtain ⟨ct,e4,r4⟩:=fV (cs:= [c4]) g4;injection e0 with e0;injection e1 with e1;injection e2 with e2;injection e3 with e3;injection e4 with e4;subst e0 e1 e2 e3 e4;exact ⟨⟨c0,c2,⟨key,k,val,pg,ct⟩⟩,rfl,⟨hd,hv,r1,r3,r4⟩,z0.1,z1.1,z2.1,z3.1,z4.1,rfl,w0,w2⟩
end
end Go.Proofs.YtfcnkpofcekmgaaGreat
namespace Go.Proofs.YtfcnkpofcekmgaaGreat
open Go.RowKit Go.WideShapes Go.ChangeShapes Go.Deep
structure OpX.ok (W:World) (o:OpX):Prop where
 x:o.x.ok W
 k:RdB W o.kv o.key
 r0:yE o.kind
 r1:yE o.at_
structure RdOps (W:World) (v:Value) (l:List OpX):Prop where
 form:∃A c,v= .slice A l.length c∧l.length≤c∧c≤maxLen∧∀i (h:i<l.length),∃ad,A=some ad∧∀r u,l[i].cells[r]? =some u→W.cell? (ad.add (i*8+r))=some u
 ok:∀o∈l,o.ok W
section
variable {H:Type} {enc:TypeId×Value→H} {W:World}
theorem uM:Tryz.prog.cellsOf 45=8:=by kernel_rfl
theorem zDZ:Tryz.prog.bytesOf 45=112:=by kernel_rfl
theorem zGY {fuel:Nat} {cs:List Value} {x:DataW H×List MemPlace} (h:DataW.trod enc Tryz.prog W 0 (fun _=>true) true fuel 45 cs=some x):
 ∃o:OpX,cs=o.cells∧o.ok W∧∃y0 y1 y2 y3 y4 y5 y6 y7,x.1= .agg [y0,y1,.agg [y2,y3,y4,y5,y6],y7]∧((y2= .nil∧o.x.c.key= [])∨∃e s,y2= .slice e s∧o.x.c.key.length≤e.length+s.length)∧((y4= .nil∧o.x.c.val= [])∨∃e s,y4= .slice e s∧o.x.c.val.length≤e.length+s.length)∧((y7= .nil∧o.key= [])∨∃e s,y7= .slice e s∧o.key.length≤e.length+s.length):=by
 obtain ⟨xs,n,_,rfl,hcl,hxl,hg⟩:=DataW.trod_struct Tryz.underlying45 h;rw [uM] at hcl
 match cs,hcl with
 | [c0,c1,c2,c3,c4,c5,c6,c7],_=>
  match xs,hxl with
  | [z0,z1,z2,z3],_=>
   have g0:=hg 0 _ rfl;have g1:=hg 1 _ rfl;have g2:=hg 2 _ rfl;have g3:=hg 3 _ rfl;obtain ⟨k,e0,r0⟩:=fV (cs:= [c0]) g0;obtain ⟨i,e1,r1⟩:=fV (cs:= [c1]) g1;obtain ⟨o,e2,hok,y0,y1,y2,y3,y4,hy,w0,w2⟩:=zC7 (cs:= [c2,c3,c4,c5,c6]) g2;obtain ⟨kv,key,e3,hd,w3⟩:=cM (cs:= [c7]) g3;injection e0 with e0;injection e1 with e1;injection e3 with e3;subst e0 e1 e3;have e4:([c2,c3,c4,c5,c6]:List Value)= [o.kv,.int .i64 o.c.kind,o.vv,.int .i64 o.c.page,.int .i64 o.c.count]:=e2;simp only [List.cons.injEq,and_true] at e4;obtain ⟨rfl,rfl,rfl,rfl,rfl⟩:=e4;exact ⟨⟨k,i,o,c7,key⟩,rfl,⟨hok,hd,r0,r1⟩,z0.1,z1.1,y0,y1,y2,y3,y4,z3.1,by rw [←hy];rfl,w0,w2,w3⟩
theorem zFL {base:Nat} {v:Value} {d:DataW H} {p:List MemPlace} (hv:Value.okWide Tryz.prog W .any base 22 v) {ts:List TypeId} {ds:List (DataW H)} {j:Nat} (h:DataW.Trod enc Tryz.prog W 0 (fun _=>true) true 22 v d p)
 (hsz:(DataW.weightsEach Tryz.prog ts ds).all (· ≤reachBytes)=true) (ht:ts[j]? =some 22) (hd:ds[j]? =some d):
 ∃l:List OpX,RdOps W v l∧l.length*112≤140737488351232∧∀o∈l,o.x.c.key.length≤140737488351232∧o.x.c.val.length≤140737488351232∧o.key.length≤140737488351232:=by
 obtain ⟨a0,len,cap,rfl⟩:=okWide_slice Tryz.underlying22 hv;obtain ⟨fuel,hf⟩:=h;rcases open_slice Tryz.underlying22 hf with ⟨hcs,_⟩|⟨a,len',cap',m,n,D,Pl,hcs,_,hl,hm,hmm,hx,hi⟩
 ·simp [Value.cells] at hcs;obtain ⟨rfl,rfl,rfl⟩:=hcs;exact ⟨[],⟨⟨none,0,rfl,by simp,by simp,fun i hi=>by simp at hi⟩,by simp⟩,by simp,by simp⟩
 ·simp [Value.cells] at hcs;obtain ⟨rfl,rfl,rfl⟩:=hcs;simp only [if_true] at hmm;subst hmm;simp only [Prod.mk.injEq] at hx;obtain ⟨rfl,_⟩:=hx
  have key:∀i,i<m→∃o:OpX,(∀r u,o.cells[r]? =some u→W.cell? (a.add (i*8+r))=some u)∧o.ok W∧∃y0 y1 y2 y3 y4 y5 y6 y7,D i= .agg [y0,y1,.agg [y2,y3,y4,y5,y6],y7]∧((y2= .nil∧o.x.c.key= [])∨∃e s,y2= .slice e s∧o.x.c.key.length≤e.length+s.length)∧((y4= .nil∧o.x.c.val= [])∨∃e s,y4= .slice e s∧o.x.c.val.length≤e.length+s.length)∧((y7= .nil∧o.key= [])∨∃e s,y7= .slice e s∧o.key.length≤e.length+s.length):=fun i him=>by
   obtain ⟨cs',hc,ht'⟩:=hi i him;obtain ⟨o,rfl,hok,hy⟩:=zGY ht';refine ⟨o,fun r u hu=> ?_,hok,hy⟩;obtain ⟨_,hcl,hat⟩:=World.cells?_some hc
   have hr:r<Tryz.prog.cellsOf 45:=by
    have:=(List.getElem?_eq_some_iff.1 hu).1
    rw [←hcl];exact this
   have:=hat r hr
   rw [uM] at this;rw [←jW,this,hu]
  obtain ⟨f,hf'⟩:=choose_lt key;refine ⟨(List.range len).map f,⟨⟨some a,m,by simp,by simpa using hl,hm,fun i hi'=>⟨a,rfl,?_⟩⟩,?_⟩,?_,?_⟩
  ·have hil:i<len:=by simpa using hi'
   simpa using (hf' i (by omega)).1
  ·intro o ho;obtain ⟨i,hi',rfl⟩:=List.mem_map.1 ho
   have:=List.mem_range.1 hi'
   exact (hf' i (by omega)).2.1
  ·have hs:=sized_slice hsz ht hd Tryz.underlying22;rw [zDZ] at hs;simp only [List.length_map,List.length_range,reachBytes] at hs;simp only [List.length_map,List.length_range];omega
  ·intro o ho;obtain ⟨i,hi',rfl⟩:=List.mem_map.1 ho;have hil:=List.mem_range.1 hi';obtain ⟨_,_,y0,y1,y2,y3,y4,y5,y6,y7,hD,w2,w4,w7⟩:=hf' i (by omega)
   have hin:∀k∈(D i).weights Tryz.prog 45,k≤reachBytes:=fun k hk=>by
    have h1:=d6 (P:=Tryz.prog) (e:=45) (List.mem_map.2 ⟨i,hi',rfl⟩:D i∈(List.range len).map D) k hk
    have h2:=List.all_eq_true.1 hsz k (DataW.weights_mem_each ht hd _ (by
     simp only [DataW.weights,Tryz.underlying22]
     exact List.mem_cons.2 (.inr (List.mem_append.2 (.inl h1)))))
    simpa using h2
   rw [hD] at hin;refine ⟨?_,?_,?_⟩
   ·rcases w2 with ⟨_,e⟩|⟨e,s,rfl,hle⟩
    ·rw [e];simp
    ·have:=hin ((e.length+s.length)*Tryz.prog.bytesOf 5) (by
      simp only [DataW.weights,Tryz.underlying45];refine DataW.weights_mem_each (j:=2) rfl rfl _ ?_;simp only [DataW.weights,Tryz.underlying43];refine DataW.weights_mem_each (j:=0) rfl rfl _ ?_;simp only [DataW.weights,Tryz.underlying41]
      exact List.mem_cons.2 (.inl rfl))
     rw [sM] at this;simp only [reachBytes] at this;omega
   ·rcases w4 with ⟨_,e⟩|⟨e,s,rfl,hle⟩
    ·rw [e];simp
    ·have:=hin ((e.length+s.length)*Tryz.prog.bytesOf 5) (by
      simp only [DataW.weights,Tryz.underlying45];refine DataW.weights_mem_each (j:=2) rfl rfl _ ?_;simp only [DataW.weights,Tryz.underlying43];refine DataW.weights_mem_each (j:=2) rfl rfl _ ?_;simp only [DataW.weights,Tryz.underlying41]
      exact List.mem_cons.2 (.inl rfl))
     rw [sM] at this;simp only [reachBytes] at this;omega
   ·rcases w7 with ⟨_,e⟩|⟨e,s,rfl,hle⟩
    ·rw [e];simp
    ·have:=hin ((e.length+s.length)*Tryz.prog.bytesOf 5) (by
      simp only [DataW.weights,Tryz.underlying45];refine DataW.weights_mem_each (j:=3) rfl rfl _ ?_;simp only [DataW.weights,Tryz.underlying41]
      exact List.mem_cons.2 (.inl rfl))
     rw [sM] at this;simp only [reachBytes] at this;omega
theorem RdOps.at_ {W:World} {A:Option Addr} {m c i:Nat} {l:List OpX} (h:RdOps W (.slice A m c) l) (hi:i<l.length):
 ∃ad,A=some ad∧W.cell? (ad.add (i*8))=some (.int .i64 l[i].kind)∧W.cell? ⟨(ad.add (i*8)).block,(ad.add (i*8)).off+1,none⟩=some (.int .i64 l[i].at_)∧W.cell? ⟨(ad.add (i*8)).block,(ad.add (i*8)).off+2,none⟩=some l[i].x.kv∧
  W.cell? ⟨(ad.add (i*8)).block,(ad.add (i*8)).off+3,none⟩=some (.int .i64 l[i].x.c.kind)∧W.cell? ⟨(ad.add (i*8)).block,(ad.add (i*8)).off+4,none⟩=some l[i].x.vv∧W.cell? ⟨(ad.add (i*8)).block,(ad.add (i*8)).off+5,none⟩=some (.int .i64 l[i].x.c.page)∧
  W.cell? ⟨(ad.add (i*8)).block,(ad.add (i*8)).off+6,none⟩=some (.int .i64 l[i].x.c.count)∧W.cell? ⟨(ad.add (i*8)).block,(ad.add (i*8)).off+7,none⟩=some l[i].kv:=by
 obtain ⟨A',c',hv,_,_,h3⟩:=h.form;injection hv with hA;subst hA;obtain ⟨ad,rfl,h4⟩:=h3 i hi
 have key:∀r u,l[i].cells[r]? =some u→W.cell? ((ad.add (i*8)).add r)=some u:=fun r u hu=>by rw [jW];exact h4 r u hu
 exact ⟨ad,rfl,h4 0 _ rfl,key 1 _ rfl,key 2 _ rfl,key 3 _ rfl,key 4 _ rfl,key 5 _ rfl,key 6 _ rfl,key 7 _ rfl⟩
end
end Go.Proofs.YtfcnkpofcekmgaaGreat
namespace Go.Proofs.YtfcnkpofcekmgaaGreat
open Go.RowKit
theorem XIn.oldN {v:World} {L:List Ent} {x:CV} (hx:x.ok v) (hm:yK v∈L) (s1:x.c.key.length≤140737488355328) (s2:x.c.val.length≤140737488355328):XIn L x:=
 ⟨⟨yK v,hm,fun _ h=>hx.k.keep fun p hp=>World.cell?_of_block (h p.block hp)⟩,⟨yK v,hm,fun _ h=>hx.v.keep fun p hp=>World.cell?_of_block (h p.block hp)⟩,hx.r1,hx.r2,hx.r3,s1,s2⟩
theorem RdIn.oldN {v:World} {L:List Ent} {x:Value} {l:List UInt8} (hr:RdB v x l) (hm:yK v∈L):RdIn L x l:=
 ⟨yK v,hm,fun _ h=>hr.keep fun p hp=>World.cell?_of_block (h p.block hp)⟩
theorem Sep.cellO {w0 w v:World} {L:List Ent} {p:Addr} {u:Value} (h:Sep w0 w L) (hm:yK v∈L) (hc:v.cell? p=some u):w.cell? p=some u:=(h.old_cell hm p (World.block_lt_of_cell? v p hc)).trans hc
end Go.Proofs.YtfcnkpofcekmgaaGreat
