/- Texts joined. -/
import Derived.Test.YtfcnkpofcekmgaaGreatNQ17
set_option maxRecDepth 100000
set_option maxHeartbeats 64000000
namespace Go.Proofs.YtfcnkpofcekmgaaGreat
open Go.RowKit
def NdP1 (w0 w:World) (L:List Ent) (p P:Nat) (kind:Int) (s:KP):Prop:=
 ∃u l,pcs l=s.l∧RngC l∧Sep w0 w (pgE p kind P (zW (pcs l):Nat) u l::L)
abbrev NdP2:=PgK
abbrev NdI1 (kind:Int) (P:Nat) (s:KP):Prop:=Wk kind P s.l
abbrev NdI2 (kind:Int) (P:Nat) (s:KP):Prop:=KInv kind P s
def plS (l:List PC):KP:=⟨l,[],0⟩
def qT (kind:Int) (P:Nat) (s:KP) (i:Int) (gone:Nat) (c:PC):Int:=vU kind P s.l i gone c
def jK (kind:Int) (P:Nat) (s:KP) (i:Int) (gone:Nat) (c:PC):KP:=plS (gI kind P s.l i gone c)
def sH (_:Int) (_:Nat) (s:KP) (i:Int):Int:=sB s.l i
def wA (_:Int) (_:Nat) (s:KP) (i:Int):KP:=plS (cT s.l i)
def zAD (_:Int) (s:KP):Nat:=zW s.l
def fJ (kind:Int) (P:Nat) (s:KP) (i:Int) (gone:Nat) (c:PC):Int:=yR kind P s.l i gone c
def gX (kind:Int) (P:Nat) (s:KP) (i:Int) (gone:Nat) (c:PC):KP:=jC kind P s i gone c
def iS (kind:Int) (P:Nat) (s:KP) (i:Int):Int:=vW kind P s.l i
def wE (kind:Int) (P:Nat) (s:KP) (i:Int):KP:=vY kind P s i
def zER (kind:Int) (s:KP):Nat:=vF kind s
theorem NdI1.ins {kind:Int} {P:Nat} {s:KP} (h:NdI1 kind P s) (i:Int) {gone:Nat} (_:gone≤1) (c:PC):NdI1 kind P (jK kind P s i gone c):=Wk.ins h i gone c
theorem NdI1.rem {kind:Int} {P:Nat} {s:KP} (h:NdI1 kind P s) (i:Int):NdI1 kind P (wA kind P s i):=Wk.del h i
theorem NdI2.ins {kind:Int} {P:Nat} {s:KP} (h:NdI2 kind P s) (i:Int) {gone:Nat} (hg:gone≤1) (c:PC):NdI2 kind P (gX kind P s i gone c):=KInv.ins h i hg c
theorem NdI2.rem {kind:Int} {P:Nat} {s:KP} (h:NdI2 kind P s) (i:Int):NdI2 kind P (wE kind P s i):=KInv.rem h i
theorem NdI1.len {kind:Int} {P:Nat} {s:KP} (h:NdI1 kind P s) (hP:P≤65536):s.l.length≤32768:=Wk.len h hP
theorem NdI2.len {kind:Int} {P:Nat} {s:KP} (h:NdI2 kind P s) (hP:P≤65536):s.l.length≤32768:=by have:=KInv.len h hP;omega
theorem NdI1.rise {kind:Int} {P:Nat} {s:KP} (h:NdI1 kind P s):Rising s.l:=Wk.rise h
theorem NdI2.rise {kind:Int} {P:Nat} {s:KP} (h:NdI2 kind P s):Rising s.l:=KInv.rise h
theorem NdI1.ok {kind:Int} {P:Nat} {s:KP} (h:NdI1 kind P s):∀c∈s.l,OkC P c:=fun c hc=>xY (Wk.may h c hc)
theorem NdI2.ok {kind:Int} {P:Nat} {s:KP} (h:NdI2 kind P s):∀c∈s.l,OkC P c:=fun c hc=>xY (KInv.may h c hc)
section
variable {w0 w w':World} {L L':List Ent} {p P:Nat} {kind:Int} {s:KP}
theorem NdP1.below (h:NdP1 w0 w L p P kind s) (hb:Below w.heap.size w w'):NdP1 w0 w' L p P kind s:=by
 obtain ⟨u,l,h1,h2,h3⟩:=h;exact ⟨u,l,h1,h2,h3.below hb⟩
theorem NdP2.below (h:NdP2 w0 w L p P kind s) (hb:Below w.heap.size w w'):NdP2 w0 w' L p P kind s:=PgK.below h hb
theorem NdP1.sep (h:NdP1 w0 w L p P kind s):∃E,Sep w0 w (E::L)∧∀(W:World) (M:List Ent),Sep w0 W (E::M)→NdP1 w0 W M p P kind s:=by
 obtain ⟨u,l,h1,h2,h3⟩:=h;exact ⟨_,h3,fun _ _ h=>⟨u,l,h1,h2,h⟩⟩
theorem NdP2.sep (h:NdP2 w0 w L p P kind s):∃E,Sep w0 w (E::L)∧∀(W:World) (M:List Ent),Sep w0 W (E::M)→NdP2 w0 W M p P kind s:=by
 obtain ⟨u,pv,l,h1,h2,h3⟩:=h;exact ⟨_,h3,fun _ _ h=>⟨u,pv,l,h1,h2,h⟩⟩
theorem zFP (hS:NdP1 w0 w L p P kind s) (hk:NdI1 kind P s) (_:kind=2∨kind=3) (hP:P≤65536) (x:CV) (hx:XIn L x) (i:Int) (hi:yE i):
 Calls Tryz.prog 201 #[.pointer (some ⟨p,0,none⟩),.int .i64 i,zJ x] w fun e w'=>e= .returned (.int .i64 (qT kind P s i 0 x.c))∧NdP1 w0 w' L p P kind (jK kind P s i 0 x.c):=by
 obtain ⟨u,l,h1,h2,h3⟩:=hS;unfold NdI1 at hk;rw [←h1] at hk;refine (oJ h3 h2 hk hP x hx i hi).mono ?_;rintro e w' ⟨u',l',rfl,hl,hr,hS'⟩;exact ⟨by unfold qT;rw [h1],u',l',by rw [hl,h1];rfl,hr,hS'⟩
theorem zFY (hS:NdP2 w0 w L p P kind s) (hk:NdI2 kind P s) (hkd:kind=2∨kind=3) (hP:P≤65536) (x:CV) (hx:XIn L x) (i:Int) (hi:yE i):
 Calls Tryz.prog 219 #[.pointer (some ⟨p,0,none⟩),.int .i64 i,zJ x] w fun e w'=>e= .returned (.int .i64 (fJ kind P s i 0 x.c))∧NdP2 w0 w' L p P kind (gX kind P s i 0 x.c):=
 aM hS hk hkd hP x hx i hi
theorem zHY (hS:NdP1 w0 w L p P kind s) (hk:NdI1 kind P s) (_:kind=2∨kind=3) (hP:P≤65536) (x:CV) (hx:XIn L x) (i:Int) (hi:yE i):
 Calls Tryz.prog 205 #[.pointer (some ⟨p,0,none⟩),.int .i64 i,zJ x] w fun e w'=>e= .returned (.int .i64 (qT kind P s i 1 x.c))∧NdP1 w0 w' L p P kind (jK kind P s i 1 x.c):=by
 obtain ⟨u,l,h1,h2,h3⟩:=hS;unfold NdI1 at hk;rw [←h1] at hk;refine (zEE h3 h2 hk hP x hx i hi).mono ?_;rintro e w' ⟨u',l',rfl,hl,hr,hS'⟩;exact ⟨by unfold qT;rw [h1],u',l',by rw [hl,h1];rfl,hr,hS'⟩
theorem zJB (hS:NdP2 w0 w L p P kind s) (hk:NdI2 kind P s) (hkd:kind=2∨kind=3) (hP:P≤65536) (x:CV) (hx:XIn L x) (i:Int) (hi:yE i):
 Calls Tryz.prog 223 #[.pointer (some ⟨p,0,none⟩),.int .i64 i,zJ x] w fun e w'=>e= .returned (.int .i64 (fJ kind P s i 1 x.c))∧NdP2 w0 w' L p P kind (gX kind P s i 1 x.c):=
 zFS hS hk hkd hP x hx i hi
theorem zIW (hS:NdP1 w0 w L p P kind s) (hk:NdI1 kind P s) (hP:P≤65536) (i:Int) (hi:yE i):
 Calls Tryz.prog 204 #[.pointer (some ⟨p,0,none⟩),.int .i64 i] w fun e w'=>e= .returned (.int .i64 (sH kind P s i))∧NdP1 w0 w' L p P kind (wA kind P s i):=by
 obtain ⟨u,l,h1,h2,h3⟩:=hS;unfold NdI1 at hk;rw [←h1] at hk;refine (oX h3 h2 hk hP i hi).mono ?_;rintro e w' ⟨u',l',rfl,hl,hr,hS'⟩;exact ⟨by unfold sH;rw [h1],u',l',by rw [hl,h1];rfl,hr,hS'⟩
theorem zJO (hS:NdP2 w0 w L p P kind s) (hk:NdI2 kind P s) (hP:P≤65536) (i:Int) (hi:yE i):
 Calls Tryz.prog 222 #[.pointer (some ⟨p,0,none⟩),.int .i64 i] w fun e w'=>e= .returned (.int .i64 (iS kind P s i))∧NdP2 w0 w' L p P kind (wE kind P s i):=
 aP hS hk hP i hi
theorem zD5 (hS:NdP1 w0 w L p P kind s) (hk:NdI1 kind P s) (hP:P≤65536) (i:Int) (hi:yE i):
 Calls Tryz.prog 199 #[.pointer (some ⟨p,0,none⟩),.int .i64 i] w fun e w'=>∃y:CV,e= .returned (.tuple #[zJ y,.int .i64 (jA s.l i)])∧y.c=xG s.l i∧fH (xG s.l i)∧NdP1 w0 w' (zB y.kv y.c.key::zB y.vv y.c.val::L) p P kind s:=by
 obtain ⟨u,l,h1,h2,h3⟩:=hS;unfold NdI1 at hk;rw [←h1] at hk⊢;refine (zB3 h3 h2 hk hP i hi).mono ?_;rintro e w' ⟨y,rfl,hy,hr,hS'⟩;exact ⟨y,rfl,hy,hr,u,l,h1,h2,hS'.sw2⟩
theorem zFB (hS:NdP2 w0 w L p P kind s) (hk:NdI2 kind P s) (hP:P≤65536) (i:Int) (hi:yE i):
 Calls Tryz.prog 217 #[.pointer (some ⟨p,0,none⟩),.int .i64 i] w fun e w'=>∃y:CV,e= .returned (.tuple #[zJ y,.int .i64 (jA s.l i)])∧y.c=xG s.l i∧fH (xG s.l i)∧NdP2 w0 w' (zB y.kv y.c.key::zB y.vv y.c.val::L) p P kind s:=by
 refine (zCZ hS hk hP i hi).mono ?_;intro e w' h;exact h
theorem zE6 (hS:NdP1 w0 w L p P kind s) (hk:NdI1 kind P s) (hkd:zO kind=true) (hp:zT (P:Int)=true):
 Calls Tryz.prog 198 #[.pointer (some ⟨p,0,none⟩)] w fun e w'=>∃v,e= .returned v∧NdP1 w0 w' (zB v (yV kind s.l P)::L) p P kind s:=by
 obtain ⟨u,l,h1,h2,h3⟩:=hS;unfold NdI1 at hk;rw [←h1] at hk;have hr:=zZ hp;refine (zAH h3 h2 hk hkd (by omega) (by omega)).mono ?_;rintro e w' ⟨v,rfl,hS'⟩;rw [h1] at hS';exact ⟨v,rfl,u,l,h1,h2,by rw [h1];exact hS'.sw1⟩
theorem zIL (hS:NdP2 w0 w L p P kind s) (hk:NdI2 kind P s) (hkd:zO kind=true) (hp:zT (P:Int)=true):
 Calls Tryz.prog 216 #[.pointer (some ⟨p,0,none⟩)] w fun e w'=>∃v,e= .returned v∧NdP2 w0 w' (zB v (x9 kind s.l P)::L) p P kind s:=by
 obtain ⟨u,pv,l,h1,h2,h3⟩:=hS;have hr:=zZ hp;have hln:=hk.len (show P≤65536 by omega);have hll:(x9 kind s.l P).length=P:=q9 hk.size;refine (zAB (h3.kAt h2) (by rw [←zA,h1];omega) (by omega) hkd hp (by rw [h1];exact hk.enc)).mono ?_;rintro e w' ⟨g,rfl,hg,hbk,hb⟩;rw [h1] at hbk;have ho:=hbk.owB' hg (by rw [hll];simp only [maxLen];omega);rw [hll] at ho;exact ⟨_,rfl,u,pv,l,h1,h2,(h3.bytes hb ho (Nat.le_refl _)).sw1⟩
theorem zIZ (hS:NdP1 w0 w L p P kind s):Calls Tryz.prog 202 #[.pointer (some ⟨p,0,none⟩)] w fun e w'=>e= .returned (.int .i64 kind)∧w=w':=by
 obtain ⟨u,l,h1,h2,h3⟩:=hS;exact zB9 (h3.pgAt h2)
theorem zH4 (hS:NdP2 w0 w L p P kind s):Calls Tryz.prog 220 #[.pointer (some ⟨p,0,none⟩)] w fun e w'=>e= .returned (.int .i64 kind)∧w=w':=by
 obtain ⟨u,pv,l,h1,h2,h3⟩:=hS;exact zB7 (h3.kAt h2)
theorem zEC (hS:NdP1 w0 w L p P kind s) (_:NdI1 kind P s) (_:P≤65536) (vk:Value) (key:List UInt8) (hv:RdB w vk key):
 Calls Tryz.prog 200 #[.pointer (some ⟨p,0,none⟩),vk] w fun e w'=>e= .returned (.tuple #[.int .i64 (z6 key s.l:Nat),.bool (isF key s.l)])∧Below w.heap.size w w':=by
 obtain ⟨u,l,h1,h2,h3⟩:=hS;rw [←h1];exact zBR (h3.pgAt h2) vk key hv
theorem zJF (hS:NdP2 w0 w L p P kind s) (hk:NdI2 kind P s) (hP:P≤65536) (vk:Value) (key:List UInt8) (hv:RdB w vk key):
 Calls Tryz.prog 218 #[.pointer (some ⟨p,0,none⟩),vk] w fun e w'=>e= .returned (.tuple #[.int .i64 (z6 key s.l:Nat),.bool (isF key s.l)])∧Below w.heap.size w w':=by
 obtain ⟨u,pv,l,h1,h2,h3⟩:=hS;have hln:=hk.len hP;have hr:=hk.rise;rw [←h1] at hr⊢;exact zBU (h3.kAt h2) hr (by rw [←zA,h1];omega) vk key hv
theorem uV (hS:NdP1 w0 w L p P kind s):Calls Tryz.prog 203 #[.pointer (some ⟨p,0,none⟩)] w fun e w'=>e= .returned (.int .i64 (s.l.length:Int))∧w=w':=by
 obtain ⟨u,l,h1,h2,h3⟩:=hS;rw [←h1,zA];exact zEN (h3.pgAt h2)
theorem zAM (hS:NdP2 w0 w L p P kind s):Calls Tryz.prog 221 #[.pointer (some ⟨p,0,none⟩)] w fun e w'=>e= .returned (.int .i64 (s.l.length:Int))∧w=w':=by
 obtain ⟨u,pv,l,h1,h2,h3⟩:=hS;rw [←h1,zA];exact zF0 (h3.kAt h2)
theorem zF1 (hS:NdP1 w0 w L p P kind s):Calls Tryz.prog 206 #[.pointer (some ⟨p,0,none⟩)] w fun e w'=>e= .returned (.int .i64 (zAD kind s:Nat))∧w=w':=by
 obtain ⟨u,l,h1,h2,h3⟩:=hS;unfold zAD;rw [←h1];exact zCK (h3.pgAt h2)
theorem zH7 (hS:NdP2 w0 w L p P kind s):Calls Tryz.prog 224 #[.pointer (some ⟨p,0,none⟩)] w fun e w'=>e= .returned (.int .i64 (zER kind s:Nat))∧w=w':=by
 obtain ⟨u,pv,l,h1,h2,h3⟩:=hS;exact zCC (h3.kAt h2)
end
abbrev tT:List Value:= [.func (.func 68) #[] #[],.func (.func 71) #[] #[],.func (.func 73) #[] #[],.func (.func 74) #[] #[],.func (.func 75) #[] #[]]
abbrev zAY:List Value:= [.func (.func 76) #[] #[],.func (.func 79) #[] #[],.func (.func 81) #[] #[],.func (.func 82) #[] #[],.func (.func 83) #[] #[]]
abbrev dX:List Value:= [.nilFunc,.nilFunc,.nilFunc,.nilFunc,.nilFunc]
theorem qL (a:Addr) (m:Mode) (fn:Fn) (first cap:Array Value) (w:World):(store a (.func fn first cap) m).run Tryz.prog w=stored Tryz.prog w a (.func fn first cap) m:=run_store Tryz.prog w a _ m rfl
theorem qJ (a:Addr) (m:Mode) (w:World):(store a .nilFunc m).run Tryz.prog w=stored Tryz.prog w a .nilFunc m:=run_store Tryz.prog w a _ m rfl
theorem OBlk.cells5' {w:World} {g:Nat} {T:TypeId} {a0 a1 a2 a3 a4:Value} (h:OBlk w g T [a0,a1,a2,a3,a4]):
 w.cell? ⟨g,0,none⟩=some a0∧w.cell? ⟨g,1,none⟩=some a1∧w.cell? ⟨g,2,none⟩=some a2∧w.cell? ⟨g,3,none⟩=some a3∧w.cell? ⟨g,4,none⟩=some a4:=⟨h.cell 0,h.cell 1,h.cell 2,h.cell 3,h.cell 4⟩
theorem OBlk.froz5' {w:World} {g:Nat} {T:TypeId} {a0 a1 a2 a3 a4:Value} (h:OBlk w g T [a0,a1,a2,a3,a4]):
 w.frozen? ⟨g,0,none⟩=false∧w.frozen? ⟨g,1,none⟩=false∧w.frozen? ⟨g,2,none⟩=false∧w.frozen? ⟨g,3,none⟩=false∧w.frozen? ⟨g,4,none⟩=false:=
 ⟨h.frozen (j:=0) (by simp),h.frozen (j:=1) (by simp),h.frozen (j:=2) (by simp),h.frozen (j:=3) (by simp),h.frozen (j:=4) (by simp)⟩
theorem Sep.set5' {w0 w:World} {g:Nat} {T:TypeId} {b0 b1 b2 b3 b4:Value} {L:List Ent} (h:Sep w0 w (z7 g T [b0,b1,b2,b3,b4]::L)) (a0 a1 a2 a3 a4:Value):
 Sep w0 (((((w.setCell ⟨g,0,none⟩ a0).setCell ⟨g,1,none⟩ a1).setCell ⟨g,2,none⟩ a2).setCell ⟨g,3,none⟩ a3).setCell ⟨g,4,none⟩ a4) (z7 g T [a0,a1,a2,a3,a4]::L):=
 ((((h.setCell 0 a0).setCell 1 a1).setCell 2 a2).setCell 3 a3).setCell 4 a4
theorem zJ0 (w:World):Calls Tryz.prog 38 #[.int .i64 1] w fun e w'=>e= .returned (.tuple #[.agg #[.func (.func 68) #[] #[],.func (.func 71) #[] #[],.func (.func 73) #[] #[],.func (.func 74) #[] #[],.func (.func 75) #[] #[]],.bool true])∧Below w.heap.size w w':=by
 have hS:=(Sep.start w).alloc 81 dX;have hsf:=qL;have hsn:=qJ;unfold dX at*;go_enter Tryz.func38,Tryz.ntmps38;go_upto_region 1 with (fail);generalize hW1:w.alloc (.cells #[.nilFunc,.nilFunc,.nilFunc,.nilFunc,.nilFunc] 81)=w1 at*;generalize w.heap.size=g at*;clear hW1;have HS:=Lib.hid (hS.set5' (.func (.func 68) #[] #[]) (.func (.func 71) #[] #[]) (.func (.func 73) #[] #[]) (.func (.func 74) #[] #[]) (.func (.func 75) #[] #[]));have hO:OBlk w1 g 81 [.nilFunc,.nilFunc,.nilFunc,.nilFunc,.nilFunc]:=hS.head;obtain ⟨y0,y1,y2,y3,y4⟩:=hO.cells5';obtain ⟨f0,f1,f2,f3,f4⟩:=hO.froz5';clear hS hO;go_wp2_with fail;have hO2:OBlk _ g 81 [.func (.func 68) #[] #[],.func (.func 71) #[] #[],.func (.func 73) #[] #[],.func (.func 74) #[] #[],.func (.func 75) #[] #[]]:=HS.out.head;obtain ⟨e0,e1,e2,e3,e4⟩:=hO2.cells5';refine bodyPost_ret (v:= .tuple #[.agg #[.func (.func 68) #[] #[],.func (.func 71) #[] #[],.func (.func 73) #[] #[],.func (.func 74) #[] #[],.func (.func 75) #[] #[]],.bool true]) ?_ rfl ?_
 ·simp [results,Tryz.results38,go_sem,e0,e1,e2,e3,e4]
 ·exact ⟨rfl,HS.out.belowOld (_v:=w) (by simp)⟩
theorem zJ1 (w:World):Calls Tryz.prog 38 #[.int .i64 2] w fun e w'=>e= .returned (.tuple #[.agg #[.func (.func 76) #[] #[],.func (.func 79) #[] #[],.func (.func 81) #[] #[],.func (.func 82) #[] #[],.func (.func 83) #[] #[]],.bool true])∧Below w.heap.size w w':=by
 have hS:=(Sep.start w).alloc 81 dX;have hsf:=qL;have hsn:=qJ;unfold dX at*;go_enter Tryz.func38,Tryz.ntmps38;go_upto_region 1 with (fail);generalize hW1:w.alloc (.cells #[.nilFunc,.nilFunc,.nilFunc,.nilFunc,.nilFunc] 81)=w1 at*;generalize w.heap.size=g at*;clear hW1;have HS:=Lib.hid (hS.set5' (.func (.func 76) #[] #[]) (.func (.func 79) #[] #[]) (.func (.func 81) #[] #[]) (.func (.func 82) #[] #[]) (.func (.func 83) #[] #[]));have hO:OBlk w1 g 81 [.nilFunc,.nilFunc,.nilFunc,.nilFunc,.nilFunc]:=hS.head;obtain ⟨y0,y1,y2,y3,y4⟩:=hO.cells5';obtain ⟨f0,f1,f2,f3,f4⟩:=hO.froz5';clear hS hO;go_wp2_with fail;have hO2:OBlk _ g 81 [.func (.func 76) #[] #[],.func (.func 79) #[] #[],.func (.func 81) #[] #[],.func (.func 82) #[] #[],.func (.func 83) #[] #[]]:=HS.out.head;obtain ⟨e0,e1,e2,e3,e4⟩:=hO2.cells5';refine bodyPost_ret (v:= .tuple #[.agg #[.func (.func 76) #[] #[],.func (.func 79) #[] #[],.func (.func 81) #[] #[],.func (.func 82) #[] #[],.func (.func 83) #[] #[]],.bool true]) ?_ rfl ?_
 ·simp [results,Tryz.results38,go_sem,e0,e1,e2,e3,e4]
 ·exact ⟨rfl,HS.out.belowOld (_v:=w) (by simp)⟩
theorem zJ2 (n:Int) (h1:n≠1) (h2:n≠2) (w:World):Calls Tryz.prog 38 #[.int .i64 n] w fun e w'=>e= .returned (.tuple #[.agg #[.nilFunc,.nilFunc,.nilFunc,.nilFunc,.nilFunc],.bool false])∧Below w.heap.size w w':=by
 have n1:(n==1)=false:=beq_eq_false_iff_ne.2 h1;have n2:(n==2)=false:=beq_eq_false_iff_ne.2 h2;clear h1 h2;have hS:=(Sep.start w).alloc 81 dX;have hsf:=qL;have hsn:=qJ;unfold dX at*;go_enter Tryz.func38,Tryz.ntmps38;go_upto_region 1 with (fail);generalize hW1:w.alloc (.cells #[.nilFunc,.nilFunc,.nilFunc,.nilFunc,.nilFunc] 81)=w1 at*;generalize w.heap.size=g at*;clear hW1;have HS:=Lib.hid (hS.set5' (.nilFunc) (.nilFunc) (.nilFunc) (.nilFunc) (.nilFunc));have hO:OBlk w1 g 81 [.nilFunc,.nilFunc,.nilFunc,.nilFunc,.nilFunc]:=hS.head;obtain ⟨y0,y1,y2,y3,y4⟩:=hO.cells5';obtain ⟨f0,f1,f2,f3,f4⟩:=hO.froz5';clear hS hO;go_wp2_with fail;have hO2:OBlk _ g 81 [.nilFunc,.nilFunc,.nilFunc,.nilFunc,.nilFunc]:=HS.out.head;obtain ⟨e0,e1,e2,e3,e4⟩:=hO2.cells5';refine bodyPost_ret (v:= .tuple #[.agg #[.nilFunc,.nilFunc,.nilFunc,.nilFunc,.nilFunc],.bool false]) ?_ rfl ?_
 ·simp [results,Tryz.results38,go_sem,e0,e1,e2,e3,e4]
 ·exact ⟨rfl,HS.out.belowOld (_v:=w) (by simp)⟩
theorem oA (p:Nat) (w:World):Calls Tryz.prog 69 #[.pointer (some ⟨p,0,none⟩),.int .i64 0] w fun e w'=>e= .returned (.tuple #[sI p,.int .i64 0])∧w=w':=by
 go_enter Tryz.func69,Tryz.ntmps69;go_wp2_with fail;go_ret2;exact ⟨rfl,rfl⟩
theorem iO (v:Value) (z:Int) (hz:z≠0) (w:World):Calls Tryz.prog 69 #[v,.int .i64 z] w fun e w'=>e= .returned (.tuple #[.nilIface,.int .i64 z])∧w=w':=by
 have hq:(z !=0)=true:=by simp only [bne,beq_eq_false_iff_ne.2 hz];rfl
 clear hz;go_enter Tryz.func69,Tryz.ntmps69;go_wp2_with fail;go_ret2;exact ⟨rfl,rfl⟩
def zD9 (R:Nat→World→Prop) (B:Int→World→Prop) (e:Ending) (w':World):Prop:=(∃p,e= .returned (.tuple #[.pointer (some ⟨p,0,none⟩),.int .i64 0])∧R p w')∨(∃z,z≠0∧e= .returned (.tuple #[.pointer none,.int .i64 z])∧B z w')
def lH (R:Nat→World→Prop) (B:Int→World→Prop) (e:Ending) (w':World):Prop:=(∃p,e= .returned (.tuple #[sI p,.int .i64 0])∧R p w')∨(∃z,z≠0∧e= .returned (.tuple #[.nilIface,.int .i64 z])∧B z w')
theorem zH1 (kind P:Int) (w:World) (R:Nat→World→Prop) (B:Int→World→Prop) (h:Calls Tryz.prog 70 #[.int .i64 kind,.int .i64 P] w (zD9 R B)):Calls Tryz.prog 68 #[.int .i64 kind,.int .i64 P] w (lH R B):=by
 go_enter Tryz.func68,Tryz.ntmps68;go_wp2_with fail;refine h.mono ?_;unfold zD9;rintro e w' (⟨p,rfl,hR⟩|⟨z,hz,rfl,hB⟩)
 ·go_wp2_with (first
   |(go_at_call 69;(with_reducible refine (oA p _).mono ?_);rintro e w2 ⟨rfl,rfl⟩)
   |fail)
  go_ret2;exact .inl ⟨p,rfl,hR⟩
 ·go_wp2_with (first
   |(go_at_call 69;(with_reducible refine (iO _ z hz _).mono ?_);rintro e w2 ⟨rfl,rfl⟩)
   |fail)
  go_ret2;exact .inr ⟨z,hz,rfl,hB⟩
def u6 (R:Nat→World→Prop) (B:Int→World→Prop) (e:Ending) (w':World):Prop:=(∃p,e= .returned (.tuple #[.pointer (some ⟨p,0,none⟩),.int .i64 0])∧R p w')∨(∃z,z≠0∧e= .returned (.tuple #[.pointer none,.int .i64 z])∧B z w')
def sR (R:Nat→World→Prop) (B:Int→World→Prop) (e:Ending) (w':World):Prop:=(∃p,e= .returned (.tuple #[sI p,.int .i64 0])∧R p w')∨(∃z,z≠0∧e= .returned (.tuple #[.nilIface,.int .i64 z])∧B z w')
theorem zHM (vb:Value) (w:World) (R:Nat→World→Prop) (B:Int→World→Prop) (h:Calls Tryz.prog 72 #[vb] w (u6 R B)):Calls Tryz.prog 71 #[vb] w (sR R B):=by
 go_enter Tryz.func71,Tryz.ntmps71;go_wp2_with fail;refine h.mono ?_;unfold u6;rintro e w' (⟨p,rfl,hR⟩|⟨z,hz,rfl,hB⟩)
 ·go_wp2_with (first
   |(go_at_call 69;(with_reducible refine (oA p _).mono ?_);rintro e w2 ⟨rfl,rfl⟩)
   |fail)
  go_ret2;exact .inl ⟨p,rfl,hR⟩
 ·go_wp2_with (first
   |(go_at_call 69;(with_reducible refine (iO _ z hz _).mono ?_);rintro e w2 ⟨rfl,rfl⟩)
   |fail)
  go_ret2;exact .inr ⟨z,hz,rfl,hB⟩
theorem zA7 (kind P:Int) (w:World) (R:Nat→World→Prop) (B:Int→World→Prop) (h:∀W,Below w.heap.size w W→Calls Tryz.prog 70 #[.int .i64 kind,.int .i64 P] W (zD9 R B)):Calls Tryz.prog 8 #[.int .i64 1,.int .i64 kind,.int .i64 P] w (lH R B):=by
 have hsf:=qL;have hf:=fun W hW=>zH1 kind P W R B (h W hW);clear h;go_enter Tryz.func8,Tryz.ntmps8
 go_upto_region 2 with (first
  |(go_at_call 38;(with_reducible refine (zJ0 _).mono ?_);rintro e w1 ⟨rfl,hw1⟩)
  |fail)
 have hS:=((Sep.start w).below hw1).alloc 81 tT;unfold tT at*;generalize hW2:w1.alloc (.cells #[.func (.func 68) #[] #[],.func (.func 71) #[] #[],.func (.func 73) #[] #[],.func (.func 74) #[] #[],.func (.func 75) #[] #[]] 81)=w2 at*;generalize w1.heap.size=g at*;clear hW2;obtain ⟨y0,-,-,-,-⟩:=(show OBlk w2 g 81 [.func (.func 68) #[] #[],.func (.func 71) #[] #[],.func (.func 73) #[] #[],.func (.func 74) #[] #[],.func (.func 75) #[] #[]] from hS.head).cells5';have hf2:=hf _ (hS.belowOld (_v:=w) (by simp));clear hS hf;go_wp2_with fail;refine hf2.mono ?_;unfold lH;rintro e w3 (⟨p,rfl,hR⟩|⟨z,hz,rfl,hB⟩)
 ·go_wp2_with fail;go_ret2;exact .inl ⟨p,rfl,hR⟩
 ·go_wp2_with fail;go_ret2;exact .inr ⟨z,hz,rfl,hB⟩
theorem iU (p:Nat) (w:World):Calls Tryz.prog 77 #[.pointer (some ⟨p,0,none⟩),.int .i64 0] w fun e w'=>e= .returned (.tuple #[tH p,.int .i64 0])∧w=w':=by
 go_enter Tryz.func77,Tryz.ntmps77;go_wp2_with fail;go_ret2;exact ⟨rfl,rfl⟩
theorem iN (v:Value) (z:Int) (hz:z≠0) (w:World):Calls Tryz.prog 77 #[v,.int .i64 z] w fun e w'=>e= .returned (.tuple #[.nilIface,.int .i64 z])∧w=w':=by
 have hq:(z !=0)=true:=by simp only [bne,beq_eq_false_iff_ne.2 hz];rfl
 clear hz;go_enter Tryz.func77,Tryz.ntmps77;go_wp2_with fail;go_ret2;exact ⟨rfl,rfl⟩
def zGC (R:Nat→World→Prop) (B:Int→World→Prop) (e:Ending) (w':World):Prop:=(∃p,e= .returned (.tuple #[.pointer (some ⟨p,0,none⟩),.int .i64 0])∧R p w')∨(∃z,z≠0∧e= .returned (.tuple #[.pointer none,.int .i64 z])∧B z w')
def lY (R:Nat→World→Prop) (B:Int→World→Prop) (e:Ending) (w':World):Prop:=(∃p,e= .returned (.tuple #[tH p,.int .i64 0])∧R p w')∨(∃z,z≠0∧e= .returned (.tuple #[.nilIface,.int .i64 z])∧B z w')
theorem zI1 (kind P:Int) (w:World) (R:Nat→World→Prop) (B:Int→World→Prop) (h:Calls Tryz.prog 78 #[.int .i64 kind,.int .i64 P] w (zGC R B)):Calls Tryz.prog 76 #[.int .i64 kind,.int .i64 P] w (lY R B):=by
 go_enter Tryz.func76,Tryz.ntmps76;go_wp2_with fail;refine h.mono ?_;unfold zGC;rintro e w' (⟨p,rfl,hR⟩|⟨z,hz,rfl,hB⟩)
 ·go_wp2_with (first
   |(go_at_call 77;(with_reducible refine (iU p _).mono ?_);rintro e w2 ⟨rfl,rfl⟩)
   |fail)
  go_ret2;exact .inl ⟨p,rfl,hR⟩
 ·go_wp2_with (first
   |(go_at_call 77;(with_reducible refine (iN _ z hz _).mono ?_);rintro e w2 ⟨rfl,rfl⟩)
   |fail)
  go_ret2;exact .inr ⟨z,hz,rfl,hB⟩
def eC (R:Nat→World→Prop) (B:Int→World→Prop) (e:Ending) (w':World):Prop:=(∃p,e= .returned (.tuple #[.pointer (some ⟨p,0,none⟩),.int .i64 0])∧R p w')∨(∃z,z≠0∧e= .returned (.tuple #[.pointer none,.int .i64 z])∧B z w')
def sU (R:Nat→World→Prop) (B:Int→World→Prop) (e:Ending) (w':World):Prop:=(∃p,e= .returned (.tuple #[tH p,.int .i64 0])∧R p w')∨(∃z,z≠0∧e= .returned (.tuple #[.nilIface,.int .i64 z])∧B z w')
theorem zHQ (vb:Value) (w:World) (R:Nat→World→Prop) (B:Int→World→Prop) (h:Calls Tryz.prog 80 #[vb] w (eC R B)):Calls Tryz.prog 79 #[vb] w (sU R B):=by
 go_enter Tryz.func79,Tryz.ntmps79;go_wp2_with fail;refine h.mono ?_;unfold eC;rintro e w' (⟨p,rfl,hR⟩|⟨z,hz,rfl,hB⟩)
 ·go_wp2_with (first
   |(go_at_call 77;(with_reducible refine (iU p _).mono ?_);rintro e w2 ⟨rfl,rfl⟩)
   |fail)
  go_ret2;exact .inl ⟨p,rfl,hR⟩
 ·go_wp2_with (first
   |(go_at_call 77;(with_reducible refine (iN _ z hz _).mono ?_);rintro e w2 ⟨rfl,rfl⟩)
   |fail)
  go_ret2;exact .inr ⟨z,hz,rfl,hB⟩
theorem zBI (kind P:Int) (w:World) (R:Nat→World→Prop) (B:Int→World→Prop) (h:∀W,Below w.heap.size w W→Calls Tryz.prog 78 #[.int .i64 kind,.int .i64 P] W (zGC R B)):Calls Tryz.prog 8 #[.int .i64 2,.int .i64 kind,.int .i64 P] w (lY R B):=by
 have hsf:=qL;have hf:=fun W hW=>zI1 kind P W R B (h W hW);clear h;go_enter Tryz.func8,Tryz.ntmps8
 go_upto_region 2 with (first
  |(go_at_call 38;(with_reducible refine (zJ1 _).mono ?_);rintro e w1 ⟨rfl,hw1⟩)
  |fail)
 have hS:=((Sep.start w).below hw1).alloc 81 zAY;unfold zAY at*;generalize hW2:w1.alloc (.cells #[.func (.func 76) #[] #[],.func (.func 79) #[] #[],.func (.func 81) #[] #[],.func (.func 82) #[] #[],.func (.func 83) #[] #[]] 81)=w2 at*;generalize w1.heap.size=g at*;clear hW2;obtain ⟨y0,-,-,-,-⟩:=(show OBlk w2 g 81 [.func (.func 76) #[] #[],.func (.func 79) #[] #[],.func (.func 81) #[] #[],.func (.func 82) #[] #[],.func (.func 83) #[] #[]] from hS.head).cells5';have hf2:=hf _ (hS.belowOld (_v:=w) (by simp));clear hS hf;go_wp2_with fail;refine hf2.mono ?_;unfold lY;rintro e w3 (⟨p,rfl,hR⟩|⟨z,hz,rfl,hB⟩)
 ·go_wp2_with fail;go_ret2;exact .inl ⟨p,rfl,hR⟩
 ·go_wp2_with fail;go_ret2;exact .inr ⟨z,hz,rfl,hB⟩
theorem oT (n kind P:Int) (h1:n≠1) (h2:n≠2) (w:World):Calls Tryz.prog 8 #[.int .i64 n,.int .i64 kind,.int .i64 P] w fun e w'=>e= .returned (.tuple #[.nilIface,.int .i64 80])∧Below w.heap.size w w':=by
 have hf:=zJ2 n h1 h2 w;have hsn:=qJ;clear h1 h2;go_enter Tryz.func8,Tryz.ntmps8
 go_wp2_with (first
  |(go_at_call 38;(with_reducible refine hf.mono ?_);rintro e w1 ⟨rfl,hw1⟩)
  |fail)
 go_ret2;exact ⟨rfl,hw1.alloc hw1.size _⟩
def egB (b:List UInt8):Nat:=(b.getD 1 0).toNat
theorem nT {w:World} {A:Option Addr} {n c:Nat} {b:List UInt8} (hv:RdB w (.slice A n c) b) (h2:2≤b.length):∃ad,A=some ad∧w.cell? ⟨ad.block,ad.off+1,none⟩=some (.int .u8 (egB b:Int))∧egB b<256:=by
 obtain ⟨ad,rfl,h⟩:=hv.at_ (j:=1) (by omega);refine ⟨ad,rfl,?_,(b.getD 1 0).toNat_lt⟩
 have e:b.getD 1 0=b[1]:=by rw [List.getD,List.getElem?_eq_getElem (by omega)];rfl
 unfold egB;rw [e];exact h
theorem zBG (v:Value) (b:List UInt8) (w:World) (hv:RdB w v b) (h2:2≤b.length) (he:egB b=1):Calls Tryz.prog 43 #[v] w fun e w'=>e= .returned (.tuple #[.agg #[.func (.func 68) #[] #[],.func (.func 71) #[] #[],.func (.func 73) #[] #[],.func (.func 74) #[] #[],.func (.func 75) #[] #[]],.bool true])∧Below w.heap.size w w':=by
 obtain ⟨A,c,rfl,hm⟩:=hv.form
 have i1:¬(b.length:Int)<2:=by omega
 have i2:(1:Int)<(b.length:Int):=by omega
 have i3:1<b.length:=by omega
 obtain ⟨ad,rfl,hc,hlt⟩:=nT hv h2
 have e1:IntKind.i64.wrap (egB b:Int)=(egB b:Int):=by rw [IntKind.wrap_i64];omega
 rw [he] at hc e1;have hof:=zJ0;have hcb:=World.block_lt_of_cell? w _ hc;clear h2;have hS:=(Sep.start w).alloc 81 dX;have hsf:=qL;have hsn:=qJ;unfold dX at*;have hc1:=(hS.old_cell (v:=w) (by simp) _ hcb).trans hc;go_enter Tryz.func43,Tryz.ntmps43;go_upto_region 1 with (fail);generalize hW1:w.alloc (.cells #[.nilFunc,.nilFunc,.nilFunc,.nilFunc,.nilFunc] 81)=w1 at*;generalize w.heap.size=g at*;clear hW1;have hof:=hof w1;go_wp2_with fail;refine hof.mono ?_;rintro e w2 ⟨rfl,hw2⟩;have hS:=hS.below hw2;have HS:=Lib.hid (hS.set5' (.func (.func 68) #[] #[]) (.func (.func 71) #[] #[]) (.func (.func 73) #[] #[]) (.func (.func 74) #[] #[]) (.func (.func 75) #[] #[]));have hO:OBlk w2 g 81 [.nilFunc,.nilFunc,.nilFunc,.nilFunc,.nilFunc]:=hS.head;obtain ⟨y0,y1,y2,y3,y4⟩:=hO.cells5';obtain ⟨f0,f1,f2,f3,f4⟩:=hO.froz5';clear hS hO;go_wp2_with fail;have hO2:OBlk _ g 81 [.func (.func 68) #[] #[],.func (.func 71) #[] #[],.func (.func 73) #[] #[],.func (.func 74) #[] #[],.func (.func 75) #[] #[]]:=HS.out.head;obtain ⟨e0,e1,e2,e3,e4⟩:=hO2.cells5';refine bodyPost_ret (v:= .tuple #[.agg #[.func (.func 68) #[] #[],.func (.func 71) #[] #[],.func (.func 73) #[] #[],.func (.func 74) #[] #[],.func (.func 75) #[] #[]],.bool true]) ?_ rfl ?_
 ·simp [results,Tryz.results43,go_sem,e0,e1,e2,e3,e4]
 ·exact ⟨rfl,HS.out.belowOld (_v:=w) (by simp)⟩
theorem zGO (v:Value) (b:List UInt8) (w:World) (hv:RdB w v b) (h2:2≤b.length) (he:egB b=2):Calls Tryz.prog 43 #[v] w fun e w'=>e= .returned (.tuple #[.agg #[.func (.func 76) #[] #[],.func (.func 79) #[] #[],.func (.func 81) #[] #[],.func (.func 82) #[] #[],.func (.func 83) #[] #[]],.bool true])∧Below w.heap.size w w':=by
 obtain ⟨A,c,rfl,hm⟩:=hv.form
 have i1:¬(b.length:Int)<2:=by omega
 have i2:(1:Int)<(b.length:Int):=by omega
 have i3:1<b.length:=by omega
 obtain ⟨ad,rfl,hc,hlt⟩:=nT hv h2
 have e1:IntKind.i64.wrap (egB b:Int)=(egB b:Int):=by rw [IntKind.wrap_i64];omega
 rw [he] at hc e1;have hof:=zJ1;have hcb:=World.block_lt_of_cell? w _ hc;clear h2;have hS:=(Sep.start w).alloc 81 dX;have hsf:=qL;have hsn:=qJ;unfold dX at*;have hc1:=(hS.old_cell (v:=w) (by simp) _ hcb).trans hc;go_enter Tryz.func43,Tryz.ntmps43;go_upto_region 1 with (fail);generalize hW1:w.alloc (.cells #[.nilFunc,.nilFunc,.nilFunc,.nilFunc,.nilFunc] 81)=w1 at*;generalize w.heap.size=g at*;clear hW1;have hof:=hof w1;go_wp2_with fail;refine hof.mono ?_;rintro e w2 ⟨rfl,hw2⟩;have hS:=hS.below hw2;have HS:=Lib.hid (hS.set5' (.func (.func 76) #[] #[]) (.func (.func 79) #[] #[]) (.func (.func 81) #[] #[]) (.func (.func 82) #[] #[]) (.func (.func 83) #[] #[]));have hO:OBlk w2 g 81 [.nilFunc,.nilFunc,.nilFunc,.nilFunc,.nilFunc]:=hS.head;obtain ⟨y0,y1,y2,y3,y4⟩:=hO.cells5';obtain ⟨f0,f1,f2,f3,f4⟩:=hO.froz5';clear hS hO;go_wp2_with fail;have hO2:OBlk _ g 81 [.func (.func 76) #[] #[],.func (.func 79) #[] #[],.func (.func 81) #[] #[],.func (.func 82) #[] #[],.func (.func 83) #[] #[]]:=HS.out.head;obtain ⟨e0,e1,e2,e3,e4⟩:=hO2.cells5';refine bodyPost_ret (v:= .tuple #[.agg #[.func (.func 76) #[] #[],.func (.func 79) #[] #[],.func (.func 81) #[] #[],.func (.func 82) #[] #[],.func (.func 83) #[] #[]],.bool true]) ?_ rfl ?_
 ·simp [results,Tryz.results43,go_sem,e0,e1,e2,e3,e4]
 ·exact ⟨rfl,HS.out.belowOld (_v:=w) (by simp)⟩
theorem zFC (v:Value) (b:List UInt8) (w:World) (hv:RdB w v b) (h2:2≤b.length) (he:egB b=1) (R:Nat→World→Prop) (B:Int→World→Prop) (h:∀W,Below w.heap.size w W→Calls Tryz.prog 72 #[v] W (u6 R B)):Calls Tryz.prog 12 #[v] w (sR R B):=by
 have hf:=fun W hW=>zHM v W R B (h W hW);have hwh:=zBG v b w hv h2 he;have hsf:=qL;obtain ⟨A,c,rfl,hm⟩:=hv.form;clear h;go_enter Tryz.func12,Tryz.ntmps12
 go_upto_region 2 with (first
  |(go_at_call 43;(with_reducible refine hwh.mono ?_);rintro e w1 ⟨rfl,hw1⟩)
  |fail)
 have hS:=((Sep.start w).below hw1).alloc 81 tT;unfold tT at*;generalize hW2:w1.alloc (.cells #[.func (.func 68) #[] #[],.func (.func 71) #[] #[],.func (.func 73) #[] #[],.func (.func 74) #[] #[],.func (.func 75) #[] #[]] 81)=w2 at*;generalize w1.heap.size=g at*;clear hW2;obtain ⟨-,y1,-,-,-⟩:=(show OBlk w2 g 81 [.func (.func 68) #[] #[],.func (.func 71) #[] #[],.func (.func 73) #[] #[],.func (.func 74) #[] #[],.func (.func 75) #[] #[]] from hS.head).cells5';have hf2:=hf _ (hS.belowOld (_v:=w) (by simp));clear hS hf;go_wp2_with fail;refine hf2.mono ?_;unfold sR;rintro e w3 (⟨p,rfl,hR⟩|⟨z,hz,rfl,hB⟩)
 ·go_wp2_with fail;go_ret2;exact .inl ⟨p,rfl,hR⟩
 ·go_wp2_with fail;go_ret2;exact .inr ⟨z,hz,rfl,hB⟩
theorem zEI (v:Value) (b:List UInt8) (w:World) (hv:RdB w v b) (h2:2≤b.length) (he:egB b=2) (R:Nat→World→Prop) (B:Int→World→Prop) (h:∀W,Below w.heap.size w W→Calls Tryz.prog 80 #[v] W (eC R B)):Calls Tryz.prog 12 #[v] w (sU R B):=by
 have hf:=fun W hW=>zHQ v W R B (h W hW);have hwh:=zGO v b w hv h2 he;have hsf:=qL;obtain ⟨A,c,rfl,hm⟩:=hv.form;clear h;go_enter Tryz.func12,Tryz.ntmps12
 go_upto_region 2 with (first
  |(go_at_call 43;(with_reducible refine hwh.mono ?_);rintro e w1 ⟨rfl,hw1⟩)
  |fail)
 have hS:=((Sep.start w).below hw1).alloc 81 zAY;unfold zAY at*;generalize hW2:w1.alloc (.cells #[.func (.func 76) #[] #[],.func (.func 79) #[] #[],.func (.func 81) #[] #[],.func (.func 82) #[] #[],.func (.func 83) #[] #[]] 81)=w2 at*;generalize w1.heap.size=g at*;clear hW2;obtain ⟨-,y1,-,-,-⟩:=(show OBlk w2 g 81 [.func (.func 76) #[] #[],.func (.func 79) #[] #[],.func (.func 81) #[] #[],.func (.func 82) #[] #[],.func (.func 83) #[] #[]] from hS.head).cells5';have hf2:=hf _ (hS.belowOld (_v:=w) (by simp));clear hS hf;go_wp2_with fail;refine hf2.mono ?_;unfold sU;rintro e w3 (⟨p,rfl,hR⟩|⟨z,hz,rfl,hB⟩)
 ·go_wp2_with fail;go_ret2;exact .inl ⟨p,rfl,hR⟩
 ·go_wp2_with fail;go_ret2;exact .inr ⟨z,hz,rfl,hB⟩
theorem zCG (kind Q:Int) (hq: -9223372036854775808≤Q∧Q≤9223372036854775807) (hk:(zO kind&&zT Q)=false) (w:World):Calls Tryz.prog 70 #[.int .i64 kind,.int .i64 Q] w fun e w'=>
 e= .returned (.tuple #[.pointer none,.int .i64 1])∧w=w':=by
 cases hk2:zO kind with
 |false=>exact zF7 kind Q hk2 w
 |true=>
  rw [hk2,Bool.true_and] at hk;have hKi:=fun W=>bX kind W;have hPa:=fun W=>bW Q hq W;rw [hk2] at hKi;rw [hk] at hPa;clear hk hk2;go_enter Tryz.func70,Tryz.ntmps70;go_wp2_with (first|(go_at_call 126;refine (hKi _).mono ?_;rintro e w1 ⟨rfl,rfl⟩)|(go_at_call 127;refine (hPa _).mono ?_;rintro e w1 ⟨rfl,rfl⟩)|fail);go_ret2;exact ⟨rfl,rfl⟩
section
variable {w0 w:World} {L:List Ent} {kind:Int} {P:Nat}
theorem oO (hS:Sep w0 w L) (hk:zO kind=true) (hp:zT (P:Int)=true):Calls Tryz.prog 8 #[.int .i64 1,.int .i64 kind,.int .i64 (P:Int)] w fun e w'=>∃p,e= .returned (.tuple #[sI p,.int .i64 0])∧NdP1 w0 w' L p P kind ⟨[],[],0⟩:=by
 refine (zA7 kind (P:Int) w (fun p w'=>NdP1 w0 w' L p P kind ⟨[],[],0⟩) (fun _ _=>False) (fun W hW=> ?_)).mono ?_
 ·refine (zHL kind P hk hp W).mono ?_;rintro e w' ⟨p,rfl,hpl,hA,hb⟩;have h1:Sep w0 w' (z7 p 144 [.int .i64 kind,.int .i64 (P:Int),.int .i64 8,.slice none 0 0]::L):=(hS.below hW).new hb hA.blk (fun g hg=>by have hg':g=p:=hg;subst hg';exact ⟨hpl,hA.blk.lt⟩);exact .inl ⟨p,rfl,.slice none 0 0,[],rfl,by simp [RngC],Sep.pgClose (l:= []) (Sep.sw1 (Sep.nilC h1))⟩
 ·rintro e w' (⟨p,rfl,h⟩|⟨_,_,_,h⟩)
  ·exact ⟨p,rfl,h⟩
  ·exact h.elim
theorem iQ (hS:Sep w0 w L) (hk:zO kind=true) (hp:zT (P:Int)=true):Calls Tryz.prog 8 #[.int .i64 2,.int .i64 kind,.int .i64 (P:Int)] w fun e w'=>∃p,e= .returned (.tuple #[tH p,.int .i64 0])∧NdP2 w0 w' L p P kind ⟨[],[],0⟩:=by
 refine (zBI kind (P:Int) w (fun p w'=>NdP2 w0 w' L p P kind ⟨[],[],0⟩) (fun _ _=>False) (fun W hW=> ?_)).mono ?_
 ·refine (zG9 kind P hk hp (hS.below hW)).mono ?_;rintro e w' ⟨p,rfl,h⟩;exact .inl ⟨p,rfl,h⟩
 ·rintro e w' (⟨p,rfl,h⟩|⟨_,_,_,h⟩)
  ·exact ⟨p,rfl,h⟩
  ·exact h.elim
theorem zCR (Q:Int) (hq:yE Q) (hk:(zO kind&&zT Q)=false) (w:World):Calls Tryz.prog 8 #[.int .i64 1,.int .i64 kind,.int .i64 Q] w fun e w'=>e= .returned (.tuple #[.nilIface,.int .i64 1])∧Below w.heap.size w w':=by
 refine (zA7 kind Q w (fun _ _=>False) (fun z w'=>z=1∧Below w.heap.size w w') (fun W hW=> ?_)).mono ?_
 ·refine (zCG kind Q hq hk W).mono ?_;rintro e w' ⟨rfl,rfl⟩;exact .inr ⟨1,by decide,rfl,rfl,hW⟩
 ·rintro e w' (⟨p,_,h⟩|⟨z,_,rfl,rfl,h⟩)
  ·exact h.elim
  ·exact ⟨rfl,h⟩
theorem zB8 (Q:Int) (hq:yE Q) (hk:(zO kind&&zT Q)=false) (w:World):Calls Tryz.prog 8 #[.int .i64 2,.int .i64 kind,.int .i64 Q] w fun e w'=>e= .returned (.tuple #[.nilIface,.int .i64 1])∧Below w.heap.size w w':=by
 refine (zBI kind Q w (fun _ _=>False) (fun z w'=>z=1∧Below w.heap.size w w') (fun W hW=> ?_)).mono ?_
 ·refine (zDW kind Q hq hk W).mono ?_;rintro e w' ⟨rfl,rfl⟩;exact .inr ⟨1,by decide,rfl,rfl,hW⟩
 ·rintro e w' (⟨p,_,h⟩|⟨z,_,rfl,rfl,h⟩)
  ·exact h.elim
  ·exact ⟨rfl,h⟩
theorem zET {v:Value} {b:List UInt8} (hS:Sep w0 w L) (hv:RdB w v b) (h2:2≤b.length) (he:egB b=1):Calls Tryz.prog 12 #[v] w fun e w'=>
 (∃p kind l,y8 b kind l∧e= .returned (.tuple #[sI p,.int .i64 0])∧NdP1 w0 w' L p b.length kind ⟨l,[],0⟩)∨((∀kind l,¬y8 b kind l)∧e= .returned (.tuple #[.nilIface,.int .i64 60])∧Sep w0 w' L):=by
 refine (zFC v b w hv h2 he (fun p w'=>∃kind l,y8 b kind l∧NdP1 w0 w' L p b.length kind ⟨l,[],0⟩) (fun z w'=>z=60∧(∀kind l,¬y8 b kind l)∧Sep w0 w' L) (fun W hW=> ?_)).mono ?_
 ·refine (zB0 (hS.below hW) (hv.below hW (Nat.le_refl _))).mono ?_;rintro e w' (⟨kind,l,p,u,hp,hr,rfl,h⟩|⟨hn,rfl,h⟩)
  ·exact .inl ⟨p,rfl,kind,pcs l,hp,u,l,rfl,hr,h⟩
  ·exact .inr ⟨60,by decide,rfl,rfl,hn,h⟩
 ·rintro e w' (⟨p,rfl,kind,l,hp,h⟩|⟨z,_,rfl,rfl,hn,h⟩)
  ·exact .inl ⟨p,kind,l,hp,rfl,h⟩
  ·exact .inr ⟨hn,rfl,h⟩
theorem zJH {v:Value} {b:List UInt8} (hS:Sep w0 w L) (hv:RdB w v b) (h2:2≤b.length) (he:egB b=2):Calls Tryz.prog 12 #[v] w fun e w'=>
 (∃p kind l,jV b kind l∧e= .returned (.tuple #[tH p,.int .i64 0])∧NdP2 w0 w' L p b.length kind (jI kind l))∨((∀kind l,¬jV b kind l)∧e= .returned (.tuple #[.nilIface,.int .i64 60])∧Sep w0 w' L):=by
 refine (zEI v b w hv h2 he (fun p w'=>∃kind l,jV b kind l∧NdP2 w0 w' L p b.length kind (jI kind l)) (fun z w'=>z=60∧(∀kind l,¬jV b kind l)∧Sep w0 w' L) (fun W hW=> ?_)).mono ?_
 ·refine (zDI (hS.below hW) v b (hv.below hW (Nat.le_refl _))).mono ?_;rintro e w' (⟨p,kind,l,hp,rfl,h⟩|⟨hn,rfl,h⟩)
  ·exact .inl ⟨p,rfl,kind,l,hp,h⟩
  ·exact .inr ⟨60,by decide,rfl,rfl,hn,h⟩
 ·rintro e w' (⟨p,rfl,kind,l,hp,h⟩|⟨z,_,rfl,rfl,hn,h⟩)
  ·exact .inl ⟨p,kind,l,hp,rfl,h⟩
  ·exact .inr ⟨hn,rfl,h⟩
end
end Go.Proofs.YtfcnkpofcekmgaaGreat
namespace Go.Proofs.YtfcnkpofcekmgaaGreat
def fU (c:PC):Bool:=decide (c.page≤65536)&&decide (c.count≤1073741824)
def rH (o:Option (PC×Nat)):Option (PC×Nat):=match o with
 |none=>none
 |some (c,t)=>if fU c=true then some (c,t) else none
def vX (d:List UInt8) (kind:Int) (i:Nat) (pre:List UInt8) (at_:Nat):Option (PC×Nat):=rH (readK d kind i pre at_)
theorem uW {d:List UInt8} {t N K:Nat} (ht:t≤d.length) (hr:ruF 0 0 (d.drop t)=(N,K,0)):0<K∧t+K≤d.length∧N<18446744073709551616:=by
 obtain ⟨h1,h2,m,h3,-,-,h4⟩:=lW (d.drop t) 0 0 N K (by omega) hr;rw [List.length_drop] at h2;simp only [Nat.pow_zero,Nat.mul_one,Nat.zero_add] at h3 h4;omega
section
variable {d pre key:List UInt8} {kind kb:Int} {i at_ N K t M J:Nat} {E:Int}
theorem zDH (h:d.length≤at_):vX d kind i pre at_=none:=by unfold vX readK;rw [if_pos h];rfl
theorem zDJ (h:at_<d.length) (hr:ruF 0 0 (d.drop (at_+1))=(N,K,E)) (hE:E≠0):vX d kind i pre at_=none:=by
 unfold vX readK;rw [if_neg (by omega),hr,if_pos hE];rfl
theorem zCU (h:at_<d.length) (hr:ruF 0 0 (d.drop (at_+1))=(N,K,0)) (hf:d.length<at_+1+K+N):vX d kind i pre at_=none:=by
 unfold vX readK;rw [if_neg (by omega),hr,if_neg (by simp),if_pos (by simpa using hf)];rfl
theorem zDX (h:at_<d.length) (hr:ruF 0 0 (d.drop (at_+1))=(N,K,0)) (hf:¬d.length<at_+1+K+N):
 vX d kind i pre at_=rH (readK.readT d ((if kind=3∧i=0 then [] else pre)++(d.drop (at_+1+K)).take N) ((d.getD at_ 0).toNat:Int) (at_+1+K+N)):=by
 unfold vX readK;rw [if_neg (by omega),hr,if_neg (by simp),if_neg (by simpa using hf)]
theorem zDR (hr:ruF 0 0 (d.drop t)=(N,K,E)) (hE:E≠0):rH (readK.readT d key kb t)=none:=by
 unfold readK.readT;rw [hr,if_pos hE];rfl
theorem zBW (hr:ruF 0 0 (d.drop t)=(N,K,0)) (hk:kb=1) (hf:d.length<t+K+N):rH (readK.readT d key kb t)=none:=by
 unfold readK.readT;rw [hr,if_neg (by simp),if_pos hk,if_pos (by simpa using hf)];rfl
theorem zC0 (hr:ruF 0 0 (d.drop t)=(N,K,0)) (hk:kb=1) (hf:¬d.length<t+K+N):rH (readK.readT d key kb t)=some (⟨key,kb,(d.drop (t+K)).take N,0,0⟩,t+K+N):=by
 unfold readK.readT;rw [hr,if_neg (by simp),if_pos hk,if_neg (by simpa using hf)];rfl
theorem zB4 (hr:ruF 0 0 (d.drop t)=(N,K,0)) (hk:kb≠1):rH (readK.readT d key kb t)=rH (readK.readN d key kb N (t+K)):=by
 unfold readK.readT;rw [hr,if_neg (by simp),if_neg hk]
theorem zC9 (hr:ruF 0 0 (d.drop t)=(M,J,E)) (hE:E≠0):rH (readK.readN d key kb N t)=none:=by
 unfold readK.readN
 split
 ·rfl
 ·rw [hr,if_pos hE];rfl
theorem tS (hr:ruF 0 0 (d.drop t)=(M,J,0)) (hb:65536<N∨1073741824<M):rH (readK.readN d key kb N t)=none:=by
 unfold readK.readN
 split
 ·rfl
 ·rw [hr,if_neg (by simp)]
  split
  ·rfl
  ·show (if fU _=true then _ else none)=_
   rw [if_neg];unfold fU;rw [Bool.and_eq_true,decide_eq_true_eq,decide_eq_true_eq]
   show ¬((N:Int)≤65536∧(M:Int)≤1073741824)
   omega
theorem zF4 (hr:ruF 0 0 (d.drop t)=(M,J,0)) (hb:¬65536<N) (hb2:¬1073741824<M):rH (readK.readN d key kb N t)=some (⟨key,kb,[],N,M⟩,t+J):=by
 unfold readK.readN;rw [if_neg (by omega),hr,if_neg (by simp),if_neg (by simp;omega)]
 show (if fU _=true then _ else none)=_
 rw [if_pos];unfold fU;rw [Bool.and_eq_true,decide_eq_true_eq,decide_eq_true_eq]
 show (N:Int)≤65536∧(M:Int)≤1073741824
 omega
end
def kE (d:List UInt8) (kind:Int) (pre:List UInt8):Nat→Nat→Nat→Option (List PC)
 |_,_,0=>some []
 |i,a,m+1=>match vX d kind i pre a with
  |none=>none
  |some (c,t)=>(kE d kind pre (i+1) t m).map (c:: ·)
theorem zDL {P:Nat} {c:PC} (h:OkC P c):fU c=true:=by
 unfold fU
 by_cases h1:c.kind=1
 ·obtain ⟨_,h2,h3⟩:=h.v0 h1;rw [h2,h3];decide
 ·obtain ⟨_,h2,h3,h4,h5⟩:=h.v1 h1;rw [Bool.and_eq_true,decide_eq_true_eq,decide_eq_true_eq];omega
theorem zC8 {P:Nat} {d pr rest pre:List UInt8} {kind:Int} {i:Nat} {c:PC} {at_ s:Nat} (hc:OkC P c) (hP:P≤65536) (hd:d=pr++(pcF kind i c s++rest)) (ha:pr.length=at_)
 (hk:c.key=(if kind=3∧i=0 then [] else pre)++yI kind i c.key s):vX d kind i pre at_=some (c,at_+(pcF kind i c s).length):=by
 unfold vX;rw [tV hc hP hd ha hk]
 show (if fU c=true then _ else none)=_
 rw [if_pos (zDL hc)]
theorem rQ {P:Nat} {d:List UInt8} {kind:Int} {pre:List UInt8} {s:Nat} (hP:P≤65536):∀(l:List PC) (i a:Nat) (pr rest:List UInt8),(∀c∈l,OkC P c)→
 d=pr++(zN kind s i l++rest)→pr.length=a→
 (∀(j:Nat) (hj:j<l.length),l[j].key=(if kind=3∧i+j=0 then [] else pre)++yI kind (i+j) l[j].key s)→kE d kind pre i a l.length=some l
 | [],_,_,_,_,_,_,_,_=>rfl
 |c::r,i,a,pr,rest,hl,hd,ha,hk=>by
  have e1:=zC8 (d:=d) (pr:=pr) (rest:=zN kind s (i+1) r++rest) (pre:=pre) (at_:=a) (i:=i) (kind:=kind) (s:=s) (hl c (by simp)) hP (by rw [hd];simp [zN]) ha (by have:=hk 0 (by simp);simpa using this)
  have e2:=rQ (d:=d) (kind:=kind) (pre:=pre) (s:=s) hP r (i+1) (a+(pcF kind i c s).length) (pr++pcF kind i c s) rest (fun x hx=>hl x (by simp [hx]))
   (by rw [hd];simp [zN]) (by simp [ha]) (fun j hj=>by
    have:=hk (j+1) (by simpa using hj)
    simp only [List.getElem_cons_succ] at this
    rw [show i+1+j=i+(j+1) by omega];exact this)
  rw [List.length_cons,kE,e1]
  show (kE d kind pre (i+1) (a+(pcF kind i c s).length) r.length).map (c:: ·)=_
  rw [e2];rfl
theorem zGA (kind:Int) (i:Nat) (c:PC) (pre:Nat):3+(yI kind i c.key pre).length+(if c.kind=1 then 0 else 1)≤(pcF kind i c pre).length:=by
 have h1:=vQ (yI kind i c.key pre).length;have h2:=vQ c.val.length;have h3:=vQ (xZ c.page);have h4:=vQ (xZ c.count);unfold pcF kvF
 by_cases h:c.kind=1
 ·rw [if_pos h,if_pos h];simp only [List.length_cons,List.length_append];omega
 ·rw [if_neg h,if_neg h];simp only [List.length_cons,List.length_append];omega
theorem wH {kind:Int} {pre:Nat}:∀{l:List PC} {i:Nat},(∀(j:Nat) (hj:j<l.length),4≤(pcF kind (i+j) l[j] pre).length)→4*l.length≤(zN kind pre i l).length
 | [],_,_=>by simp [zN]
 |c::r,i,h=>by
  have h0:4≤(pcF kind i c pre).length:=h 0 (by simp)
  have ih:=wH (kind:=kind) (pre:=pre) (l:=r) (i:=i+1) (fun j hj=>by
   have:=h (j+1) (by simpa using hj)
   rw [show i+1+j=i+(j+1) by omega];simpa using this)
  simp only [zN,List.length_cons,List.length_append];omega
theorem mY:∀(p x:List UInt8),¬yD (p++x) p<0
 | [],[]=>by simp [yD]
 | [],_::_=>by simp [yD]
 |a::p,x=>by
  rw [List.cons_append,wP];exact mY p x
theorem zB2 {kind:Int} {l:List PC} {P:Nat} (hk:zO kind=true) (h:kQ kind l P=0) (_hP:512≤P):6*l.length≤P:=by
 obtain ⟨h1,h2⟩:=qH.1 h;have hz:zS kind l=10+zD kind l+2*l.length+(zN kind (zD kind l) 0 l).length:=rfl;have hs:=(gS h1).2;have hkd:kind=2∨kind=3:=of_decide_eq_true hk
 cases hl:l with
 |nil=>simp
 |cons c r=>
  have hb:∀(j:Nat) (hj:j<r.length),4≤(pcF kind (1+j) r[j] (zD kind l)).length:=fun j hj=>by
   have h3:=zGA kind (1+j) r[j] (zD kind l)
   by_cases hq:r[j].kind=1
   ·have hm:=qE h1 r[j] (by rw [hl];simp)
    have hk3:kind≠3:=fun e=>by
     subst e
     have:=sN hm
     omega
    have hlj:(j+1)<l.length:=by rw [hl];simpa using hj
    have ej:l[j+1]=r[j]:=by simp [hl]
    have e0:l[0]'(by omega)=c:=by simp [hl]
    have k1:=xS (kind:=kind) hlj (by omega);have k0:=xS (kind:=kind) (l:=l) (i:=0) (by omega) (by omega);have ho:=List.pairwise_iff_getElem.1 hs 0 (j+1) (by omega) hlj (by omega)
    have hr:yI kind (1+j) r[j].key (zD kind l)=r[j].key.drop (zD kind l):=by unfold yI;rw [if_neg (by omega)]
    rcases Nat.eq_zero_or_pos (r[j].key.drop (zD kind l)).length with e|e
    ·exfalso
     rw [ej] at k1 ho;rw [List.eq_nil_of_length_eq_zero e,List.append_nil] at k1;rw [k0.2.1] at ho;rw [k1.2.1] at ho;exact mY _ _ ho
    ·rw [hr] at h3;rw [if_pos hq] at h3;omega
   ·rw [if_neg hq] at h3;omega
  have h4:=wH hb;have h5:=zGA kind 0 c (zD kind l)
  have h6:(zN kind (zD kind l) 0 l).length=(pcF kind 0 c (zD kind l)).length+(zN kind (zD kind l) 1 r).length:=by
   rw [hl];simp only [zN,List.length_append]
  have h7:l.length=r.length+1:=by rw [hl];rfl
  rw [←hl];omega
def nO (b:List UInt8):Option (List PC):=
 if b.length<6+zL b 4 2∨b.length/6<zL b 2 2 then none
 else kE b (vD b) (tG b) 0 (6+zL b 4 2+2*zL b 2 2) (zL b 2 2)
theorem o2 {b:List UInt8} {kind:Int} {l:List PC} (hpk:jV b kind l):nO b=some l∧vD b=kind:=by
 obtain ⟨h0,hk,h,h9⟩:=hpk;have hP:=(zZ h0);obtain ⟨h1,h2⟩:=qH.1 h;have hok:∀c∈l,OkC b.length c:=fun c hc=>xY (qE h1 c hc);have hz:zS kind l=10+zD kind l+2*l.length+(zN kind (zD kind l) 0 l).length:=rfl;have hmany:=zB2 hk h (by omega);have hkd:kind=2∨kind=3:=of_decide_eq_true hk;obtain ⟨P,hPP⟩:∃P,b.length=P:=⟨_,rfl⟩;rw [hPP] at h h2 h9 hok hmany hP h1;have hB:b=(u8I kind::2::(zI l.length 2++(zI (zD kind l) 2++(xE kind l++(yH kind (zD kind l) (6+zD kind l+2*l.length) 0 l++(zN kind (zD kind l) 0 l++List.replicate (P-zS kind l) 0))))))++zI (jQ (vT kind l P)) 4:=h9.symm
 have e1:zL b 2 2=l.length:=by
  refine jF (pre:= [u8I kind,2]) (rest:=(zI (zD kind l) 2++(xE kind l++(yH kind (zD kind l) (6+zD kind l+2*l.length) 0 l++(zN kind (zD kind l) 0 l++List.replicate (P-zS kind l) 0))))++zI (jQ (vT kind l P)) 4) (by rw [hB];simp) rfl (by show _<65536;omega)
 have e2:zL b 4 2=zD kind l:=by
  refine jF (pre:=u8I kind::2::zI l.length 2) (rest:=(xE kind l++(yH kind (zD kind l) (6+zD kind l+2*l.length) 0 l++(zN kind (zD kind l) 0 l++List.replicate (P-zS kind l) 0)))++zI (jQ (vT kind l P)) 4) (by rw [hB];simp) (by simp [zE]) (by show _<65536;omega)
 have e3:tG b=xE kind l:=by
  unfold tG;rw [e2];refine bR (pre:=u8I kind::2::(zI l.length 2++zI (zD kind l) 2)) (rest:=(yH kind (zD kind l) (6+zD kind l+2*l.length) 0 l++(zN kind (zD kind l) 0 l++List.replicate (P-zS kind l) 0))++zI (jQ (vT kind l P)) 4) (by rw [hB];simp) (by simp [zE]) (yQ kind l)
 have e4:vD b=kind:=by
  unfold vD;rw [hB];simp only [List.cons_append,List.getD_cons_zero];unfold u8I;rw [UInt8.toNat_ofNat'];omega
 refine ⟨?_,e4⟩;unfold nO;rw [e1,e2,e3,e4,hPP,if_neg (by omega)];refine rQ (P:=P) (s:=zD kind l) (by omega) l 0 _ (u8I kind::2::(zI l.length 2++(zI (zD kind l) 2++(xE kind l++yH kind (zD kind l) (6+zD kind l+2*l.length) 0 l)))) (List.replicate (P-zS kind l) 0++zI (jQ (vT kind l P)) 4) hok ?_ ?_ ?_
 ·rw [hB];simp
 ·simp only [List.length_cons,List.length_append,zE,yQ,vA];omega
 ·intro j hj;rw [Nat.zero_add];unfold yI
  by_cases hn:kind=3∧j=0
  ·rw [if_pos hn,if_pos hn];rfl
  ·rw [if_neg hn,if_neg hn];exact (xS hj hn).2.1
end Go.Proofs.YtfcnkpofcekmgaaGreat
