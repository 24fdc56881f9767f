/- Texts joined. -/
import Derived.Test.YtfcnkpofcekmgaaGreatNQ3
import Derived.Deep.RegionHeld3
import Derived.Lib.Bytealg
import Derived.Laws.Entries
import Derived.Laws.Externs
set_option maxRecDepth 100000
set_option maxHeartbeats 64000000
namespace Go.Proofs.YtfcnkpofcekmgaaGreat
open Go.RowKit
structure LaySt (w0 w:World) (g:Nat) (cs:List Value) (L:List UInt8) (wx:World):Prop where
 c:OBlk wx w.heap.size 43 cs
 b:OBlk wx g 5 (bvs L)
 lo:Below w0.heap.size w0 wx
 t:Turn (fun k=>k=g) w wx
theorem LaySt.step {w0 w:World} {g:Nat} {cs:List Value} {L M:List UInt8} {wx wa wb:World} (h:LaySt w0 w g cs L wx) (hg:w0.heap.size≤g) (hgw:g<w.heap.size) (h1:Below wx.heap.size wx wa) (h2:wa.grownBy wb (some g)) (hb:OBlk wb g 5 (bvs M)):LaySt w0 w g cs M wb where
 c:=(h.c.below h1 h.c.lt).grown h2 (by simp only [ne_eq,Option.some.injEq];omega)
 b:=hb
 lo:=(h.lo.trans (h1.mono h.lo.size)).grown h2 (Nat.le_trans h.lo.size h1.size) (fun k hk=>by injection hk with hk;omega)
 t:=(h.t.trans (Turn.of_below (F:=fun k=>k=g) h1) (fun b e=> .inl e)).grown h2 (fun b e=>by injection e with e;exact .inl e.symm)
theorem zGP (x:CV) (P:Nat) (hP:P≤65536) (hc:OkC P x.c) (w0 w:World) (hx:x.ok w0) (hB:Below w0.heap.size w0 w) (g o m cap:Nat) (L:List UInt8) (hg:w0.heap.size≤g) (hL:OBlk w g 5 (bvs L)) (hm:o+m≤L.length) (_hcap:m≤cap) (hcp:cap≤140737488355328) (hfit:z9 x.c≤m) (hcx:z9 x.c<cap):
 Calls Tryz.prog 165 #[.slice (some ⟨g,o,none⟩) m cap,zJ x] w fun e w'=>(∃v,e= .returned v)∧OBlk w' g 5 (bvs (splice L o (jR x.c)))∧Below w0.heap.size w0 w'∧Turn (fun k=>k=g) w w':=by
 have hxw:=hx.below hB;obtain ⟨A,ca,B,cb,key,ck,val,pg,ct,rfl,hk1,hk2⟩:=CV.form hx;have hlen:=kH ⟨key,ck,val,pg,ct⟩;have hA:Below w.heap.size w (w.alloc (.cells #[.slice A key.length ca,.int .i64 ck,.slice B val.length cb,.int .i64 pg,.int .i64 ct] 43)):=(Below.refl _ _).alloc (Nat.le_refl _) _;have hb:=OBlk.new' w 43 [.slice A key.length ca,.int .i64 ck,.slice B val.length cb,.int .i64 pg,.int .i64 ct];obtain ⟨c0,c1,c2,c3,c4⟩:=zC hb;have hL1:=hL.alloc (.cells #[.slice A key.length ca,.int .i64 ck,.slice B val.length cb,.int .i64 pg,.int .i64 ct] 43);have hgl:=hL.lt;have hl5:=dK ⟨key,ck,val,pg,ct⟩;have hfit':z9 ⟨key,ck,val,pg,ct⟩≤m:=hfit;have hcx':z9 ⟨key,ck,val,pg,ct⟩<cap:=hcx;clear hfit hcx
 have i1:(0:Int)<(m:Int):=by omega
 have f0:=hL1.frozen (j:=o) (by rw [yO];omega);obtain ⟨y,hy⟩:∃y,L[o]? =some y:=⟨_,List.getElem?_eq_getElem (by omega)⟩;have z0:=hL1.cell' (j:=o) (u:= .int .u8 (y.toNat:Int)) (by simp [bvs,hy];rfl);unfold zJ;have hkd:=hc.kd;simp only at hkd
 have hck:Value.int .u8 ck=bv (UInt8.ofNat ck.toNat):=by show _=Value.int .u8 ((UInt8.ofNat ck.toNat).toNat:Int);rw [UInt8.toNat_ofNat'];congr 1;omega
 have hkl:key.length≤8192:=by have:=hc.k0;simp only at this;omega
 have hlo:z9 ⟨key,ck,val,pg,ct⟩=if ck=1 then 5+key.length+val.length else 11+key.length:=rfl
 have hlo2:5+key.length≤z9 ⟨key,ck,val,pg,ct⟩:=by rw [hlo];split<;>omega
 have HK:=Lib.hid hck;clear hck hlo;go_enter Tryz.func165,Tryz.ntmps165;go_upto_region 1 with (fail)
 go_cut [] (fun wx=>LaySt w0 w g [.slice A key.length ca,.int .i64 ck,.slice B val.length cb,.int .i64 pg,.int .i64 ct] (splice L o [UInt8.ofNat ck.toNat]) wx)
 case first=>
  go_wp2_with fail;go_meet;rw [HK.out];have h2:=(hL.set o (bv (UInt8.ofNat ck.toNat))).alloc (.cells #[.slice A key.length ca,.int .i64 ck,.slice B val.length cb,.int .i64 pg,.int .i64 ct] 43);rw [show bv (UInt8.ofNat ck.toNat)=Value.int .u8 ((UInt8.ofNat ck.toNat).toNat:Int) from rfl,←g7] at h2
  have e:L.set o (UInt8.ofNat ck.toNat)=splice L o [UInt8.ofNat ck.toNat]:=by
   rw [List.set_eq_take_append_cons_drop,if_pos (by omega)];unfold splice;simp
  rw [e] at h2;have h3:=OBlk.new' (w.setCell ⟨g,o,none⟩ (bv (UInt8.ofNat ck.toNat))) 43 [.slice A key.length ca,.int .i64 ck,.slice B val.length cb,.int .i64 pg,.int .i64 ct];simp only [World.size_setCell] at h3;exact ⟨h3,h2,(hB.setCell hg _).alloc (by simp only [World.size_setCell];exact hB.size) _,((Turn.refl (fun k=>k=g) w).setCell ⟨g,o,none⟩ _ (.inl rfl)).alloc _⟩
 case rest=>
  clear z0 f0 c0 c1 c2 c3 c4 hb hL1 hL hy HK;have hs1:(splice L o [UInt8.ofNat ck.toNat]).length=L.length:=vR (by simp;omega)
  have n1:¬cap=1:=by omega
  have n2:(1:Int)≤(m:Int):=by omega
  have hwn:IntKind.u64.wrap (key.length:Int)=(key.length:Int):=IntWalk.u64_in _ (by omega);go_upto_region 2 with (fail)
  go_cut [] (fun wx=>LaySt w0 w g [.slice A key.length ca,.int .i64 ck,.slice B val.length cb,.int .i64 pg,.int .i64 ct] (splice L o (UInt8.ofNat ck.toNat::zI key.length 2)) wx)
  case first=>
   obtain ⟨c0,c1,c2,c3,c4⟩:=zC hcut.c;have hz:=hcut.c.lt
   go_region_held3 (fun w'=>w'.cell? ⟨w.heap.size,0,none⟩=some (.slice A key.length ca))
    (first
     |exact c0
     |exact (hw7.cell (by simpa using hz)).trans c0
     |exact hg8.cell ((hw7.cell (by simpa using hz)).trans c0) (by simp;omega))
    (first
     |(go_at_call 141;(with_reducible refine (bT key.length (by omega) _).mono ?_);rintro e w7 ⟨rfl,hf7,hw7,hs7⟩)
     |(refine xF (by rfl) (.tmp 10) (.tmp 15) (by rfl) _ (m-1) (cap-1) g (o+1) (by rfl) _ ((hcut.b.drew).below hw7 (by have:=hcut.b.lt;simpa using this)) (fun _=>rfl) (by rw [hs1];omega) _ (zI key.length 2) (by rfl) (hf7.rdB (zE _ 2) (by omega)) ?_;intro w8 hb8 hg8)
     |fail)
   go_wp2_with fail;go_meet;rw [kT L [UInt8.ofNat ck.toNat] (zI key.length 2) o (o+1) (m-1) rfl (by rw [zE];omega) (by rw [zE];simp;omega)] at hb8;exact hcut.step hg hgl ((Below.refl _ _).drew.trans hw7) hg8 hb8
  case rest=>
   have hs3:(splice L o (UInt8.ofNat ck.toNat::zI key.length 2)).length=L.length:=vR (by simp [zE];omega)
   have n3:¬cap=3:=by omega
   have n4:(3:Int)≤(m:Int):=by omega
   have n5:¬cap=3+key.length:=by omega
   have n6:((3:Int)+(key.length:Int))≤(m:Int):=by omega
   have n7:min key.length (m-3)=key.length:=by omega
   have n8:IntKind.i64.wrap ((3:Int)+(key.length:Int))=(3:Int)+(key.length:Int):=by rw [IntKind.wrap_i64];omega
   have n9:(0:Int)≤(3:Int)+(key.length:Int):=by omega
   have n10:((3:Int)+(key.length:Int)).toNat=3+key.length:=by omega
   have n11:¬cap=((3:Int)+(key.length:Int)).toNat:=by omega
   go_upto_region 3 with (fail)
   go_cut [0] (fun s wx=>s= .slice (some ⟨g,o+(3+key.length),none⟩) (m-(3+key.length)) (cap-(3+key.length))∧LaySt w0 w g [.slice A key.length ca,.int .i64 ck,.slice B val.length cb,.int .i64 pg,.int .i64 ct] (splice L o (UInt8.ofNat ck.toNat::(zI key.length 2++key))) wx)
   case first=>
    obtain ⟨c0,c1,c2,c3,c4⟩:=zC hcut.c;have hz:=hcut.c.lt;have hrd:=(hx.k.below hcut.lo (Nat.le_refl _)).drew
    go_region_held3 (fun w'=>w'.cell? ⟨w.heap.size,0,none⟩=some (.slice A key.length ca))
     (first
      |exact c0
      |exact hg8.cell c0 (by simp;omega))
     (first
      |(refine xF (by rfl) (.tmp 19) (.tmp 21) (by rfl) _ (m-3) (cap-3) g (o+3) (by rfl) _ (hcut.b.drew) (fun _=>rfl) (by rw [hs3];omega) _ key (by rfl) hrd ?_;intro w8 hb8 hg8)
      |fail)
    go_wp2_with fail;go_meet;rw [kT L (UInt8.ofNat ck.toNat::zI key.length 2) key o (o+3) (m-3) (by simp [zE]) (by omega) (by simp [zE];omega)] at hb8;exact ⟨rfl,hcut.step hg hgl (Below.refl _ _).drew hg8 hb8⟩
   case rest=>
    obtain ⟨rfl,hst⟩:=hcut;have hs4:(splice L o (UInt8.ofNat ck.toNat::(zI key.length 2++key))).length=L.length:=vR (by simp [zE];omega);obtain ⟨c0,c1,c2,c3,c4⟩:=zC hst.c;have hz:=hst.c.lt
    have hlen4:(UInt8.ofNat ck.toNat::(zI key.length 2++key)).length=3+key.length:=by simp [zE];omega
    clear n1 n2 n3 n4 n5 n6 n7 n8 n9 n10 n11 hs1 hs3
    by_cases h1:ck=1
    ·subst h1;have hlo:z9 ⟨key,1,val,pg,ct⟩=5+key.length+val.length:=rfl
     have hvl:val.length≤65536:=by have:=(hc.v0 rfl).1;simp only at this;omega
     have hwv:IntKind.u64.wrap (val.length:Int)=(val.length:Int):=IntWalk.u64_in _ (by omega)
     have n1:¬cap-(3+key.length)=2:=by omega
     have n2:(2:Int)≤((m-(3+key.length):Nat):Int):=by omega
     go_upto_region 6 with (first
      |(go_at_call 141;(with_reducible refine (bT val.length (by omega) _).mono ?_);rintro e w7 ⟨rfl,hf7,hw7,hs7⟩)
      |((with_reducible refine dM ?_);refine dG rfl (.tmp 28) (.tmp 33) rfl _ (m-(3+key.length)) (cap-(3+key.length)) g (o+(3+key.length)) rfl _ (hst.b.below hw7 hst.b.lt) (fun _=>rfl) (by rw [hs4];omega) _ (zI val.length 2) rfl (hf7.rdB (zE _ 2) (by omega)) ?_;intro w8 hb8 hg8)
      |fail)
     rw [kT L (UInt8.ofNat (1:Int).toNat::(zI key.length 2++key)) (zI val.length 2) o (o+(3+key.length)) _ (by rw [hlen4]) (by rw [zE];omega) (by rw [zE,hlen4];omega)] at hb8;have hst8:=hst.step hg hgl hw7 hg8 hb8;clear c0 c1 c2 c3 c4 hb8;obtain ⟨c0,c1,c2,c3,c4⟩:=zC hst8.c
     have hlen5:((UInt8.ofNat (1:Int).toNat::(zI key.length 2++key))++zI val.length 2).length=3+key.length+2:=by rw [List.length_append,hlen4,zE]
     have hs5:(splice L o ((UInt8.ofNat (1:Int).toNat::(zI key.length 2++key))++zI val.length 2)).length=L.length:=vR (by rw [hlen5];omega);have hrd:=(hx.v.below hst8.lo (Nat.le_refl _)).drew;clear hst hg8 hw7 hf7 hs7
     go_region_held3 (fun w'=>w'.cell? ⟨w.heap.size,2,none⟩=some (.slice B val.length cb))
      (first
       |exact c2
       |exact hg9.cell c2 (by simp;omega))
      (first
       |(refine xF (by rfl) (.tmp 36) (.tmp 38) (by rfl) _ (m-(3+key.length)-2) (cap-(3+key.length)-2) g (o+(3+key.length)+2) (by rfl) _ (hst8.b.drew) (fun _=>rfl) (by rw [hs5];omega) _ val (by rfl) hrd ?_;intro w9 hb9 hg9)
       |fail)
     go_wp2_with fail;refine bodyPost_ret (results_none rfl _ _ _) rfl ?_;rw [kT L ((UInt8.ofNat (1:Int).toNat::(zI key.length 2++key))++zI val.length 2) val o (o+(3+key.length)+2) _ (by rw [hlen5];omega) (by omega) (by rw [hlen5];omega)] at hb9;have hst9:=hst8.step hg hgl (Below.refl _ _).drew hg9 hb9
     have e:(UInt8.ofNat (1:Int).toNat::(zI key.length 2++key))++zI val.length 2++val=jR ⟨key,1,val,pg,ct⟩:=by simp [jR,bI]
     rw [e] at hst9;exact ⟨⟨_,rfl⟩,hst9.b,hst9.lo,hst9.t⟩
    ·have hb1:(ck==1)=false:=beq_eq_false_iff_ne.2 h1;have hlo:z9 ⟨key,ck,val,pg,ct⟩=11+key.length:=if_neg h1;have hv1:=hc.v1 h1;simp only at hv1;obtain ⟨hv0,hp0,hp1,hc0,hc1⟩:=hv1;obtain ⟨pn,rfl⟩:∃pn:Nat,pg=(pn:Int):=⟨pg.toNat,by omega⟩;obtain ⟨cn,rfl⟩:∃cn:Nat,ct=(cn:Int):=⟨ct.toNat,by omega⟩;have hpw:IntKind.u64.wrap (pn:Int)=(pn:Int):=IntWalk.u64_in _ (by omega);have hcw:IntKind.u64.wrap (cn:Int)=(cn:Int):=IntWalk.u64_in _ (by omega)
     have e:(UInt8.ofNat ck.toNat::(zI key.length 2++key))++zI pn 4++zI cn 4=jR ⟨key,ck,val,(pn:Int),(cn:Int)⟩:=by simp [jR,bI,h1]
     have HE:=Lib.hid e
     have n1:¬cap-(3+key.length)=4:=by omega
     have n2:(4:Int)≤((m-(3+key.length):Nat):Int):=by omega
     clear hv0 h1 e
     go_upto_region 8 with (first
      |(go_at_call 141;(with_reducible refine (rF pn (by omega) _).mono ?_);rintro e w7 ⟨rfl,hf7,hw7,hs7⟩)
      |((with_reducible refine dM ?_);refine dG rfl (.tmp 40) (.tmp 44) rfl _ (m-(3+key.length)) (cap-(3+key.length)) g (o+(3+key.length)) rfl _ (hst.b.below hw7 hst.b.lt) (fun _=>rfl) (by rw [hs4];omega) _ (zI pn 4) rfl (hf7.rdB (zE _ 4) (by omega)) ?_;intro w8 hb8 hg8)
      |fail)
     rw [kT L (UInt8.ofNat ck.toNat::(zI key.length 2++key)) (zI pn 4) o (o+(3+key.length)) _ (by rw [hlen4]) (by rw [zE];omega) (by rw [zE,hlen4];omega)] at hb8;have hst8:=hst.step hg hgl hw7 hg8 hb8;clear c0 c1 c2 c3 c4 hb8;obtain ⟨c0,c1,c2,c3,c4⟩:=zC hst8.c
     have hlen5:((UInt8.ofNat ck.toNat::(zI key.length 2++key))++zI pn 4).length=3+key.length+4:=by rw [List.length_append,hlen4,zE]
     have hs5:(splice L o ((UInt8.ofNat ck.toNat::(zI key.length 2++key))++zI pn 4)).length=L.length:=vR (by rw [hlen5];omega);clear hst hg8 hw7 hf7 hs7;have hz8:=hst8.c.lt
     go_region_held3 (fun w'=>w'.cell? ⟨w.heap.size,4,none⟩=some (.int .i64 (cn:Int)))
      (first
       |exact c4
       |exact (hw9.cell (by simpa using hz8)).trans c4
       |exact hg10.cell ((hw9.cell (by simpa using hz8)).trans c4) (by simp;omega))
      (first
       |(go_at_call 141;(with_reducible refine (rF cn (by omega) _).mono ?_);rintro e w9 ⟨rfl,hf9,hw9,hs9⟩)
       |(refine xF (by rfl) (.tmp 47) (.tmp 51) (by rfl) _ (m-(3+key.length)-4) (cap-(3+key.length)-4) g (o+(3+key.length)+4) (by rfl) _ ((hst8.b.drew).below hw9 (by have:=hst8.b.lt;simpa using this)) (fun _=>rfl) (by rw [hs5];omega) _ (zI cn 4) (by rfl) (hf9.rdB (zE _ 4) (by omega)) ?_;intro w10 hb10 hg10)
       |fail)
     go_wp2_with fail;refine bodyPost_end (results_none rfl _ _ _) rfl ?_;rw [kT L ((UInt8.ofNat ck.toNat::(zI key.length 2++key))++zI pn 4) (zI cn 4) o (o+(3+key.length)+4) _ (by rw [hlen5];omega) (by rw [zE];omega) (by rw [zE,hlen5];omega)] at hb10;have hst10:=hst8.step hg hgl ((Below.refl _ _).drew.trans hw9) hg10 hb10;rw [HE.out] at hst10;exact ⟨⟨_,rfl⟩,hst10.b,hst10.lo,hst10.t⟩
def kJ (kind:Int) (l:List PC) (P k:Nat):List UInt8:=
 kC kind l.length++(yN (atF l P) (l.take k)++(List.replicate (P-4-zM l-4-2*k) 0++(yW (l.take k)++List.replicate (zM (l.drop k)+4) 0)))
theorem qR (l:List PC) (k:Nat):zM (l.take k)+zM (l.drop k)=zM l:=by
 rw [←x6,List.take_append_drop]
theorem cQ (l:List PC) {k:Nat} (hk:k<l.length):zM (l.take (k+1))=zM (l.take k)+z9 l[k]:=by
 rw [List.take_succ_eq_append_getElem hk,x6];simp [zM]
theorem uX (l:List PC) {k:Nat} (hk:k<l.length):zM (l.drop k)=z9 l[k]+zM (l.drop (k+1)):=by
 rw [List.drop_eq_getElem_cons hk];rfl
theorem mW {kind:Int} {l:List PC} {P k:Nat} (h:zW l≤P) (hk:k≤l.length):(kJ kind l P k).length=P:=by
 have h1:=yS l;have h2:=qR l k;unfold kJ;simp only [List.length_append,jD,x5,List.length_replicate,xQ,List.length_take];rw [Nat.min_eq_left hk];omega
theorem zBQ {kind:Int} {l:List PC} {P k:Nat} (h:zW l≤P) (hk:k<l.length):
 splice (kJ kind l P k) (4+2*k) (zI (atF l P+zM (l.take k)) 2)=kC kind l.length++(yN (atF l P) (l.take (k+1))++(List.replicate (P-4-zM l-4-2*(k+1)) 0++(yW (l.take k)++List.replicate (zM (l.drop k)+4) 0))):=by
 have h1:=yS l
 have e1:List.replicate (P-4-zM l-4-2*k) (0:UInt8)=List.replicate 2 0++List.replicate (P-4-zM l-4-2*(k+1)) 0:=by
  rw [List.replicate_append_replicate];congr 1;omega
 have e2:kJ kind l P k=(kC kind l.length++yN (atF l P) (l.take k))++(List.replicate 2 0++(List.replicate (P-4-zM l-4-2*(k+1)) 0++(yW (l.take k)++List.replicate (zM (l.drop k)+4) 0))):=by
  unfold kJ;rw [e1];simp only [List.append_assoc]
 rw [e2,jY _ _ _ _ (4+2*k) (by simp only [List.length_append,jD,x5,List.length_take];omega) (by rw [zE];rfl)];rw [List.take_succ_eq_append_getElem hk,bH];simp [yN]
theorem zBT {kind:Int} {l:List PC} {P k:Nat} (h:zW l≤P) (hk:k<l.length):
 splice (kC kind l.length++(yN (atF l P) (l.take (k+1))++(List.replicate (P-4-zM l-4-2*(k+1)) 0++(yW (l.take k)++List.replicate (zM (l.drop k)+4) 0)))) (atF l P+zM (l.take k)) (jR l[k])=kJ kind l P (k+1):=by
 have h1:=yS l
 have e1:List.replicate (zM (l.drop k)+4) (0:UInt8)=List.replicate (z9 l[k]) 0++List.replicate (zM (l.drop (k+1))+4) 0:=by
  rw [List.replicate_append_replicate];congr 1;rw [uX l hk];omega
 have e2:kC kind l.length++(yN (atF l P) (l.take (k+1))++(List.replicate (P-4-zM l-4-2*(k+1)) 0++(yW (l.take k)++List.replicate (zM (l.drop k)+4) 0)))=
  (kC kind l.length++(yN (atF l P) (l.take (k+1))++(List.replicate (P-4-zM l-4-2*(k+1)) 0++yW (l.take k))))++(List.replicate (z9 l[k]) 0++List.replicate (zM (l.drop (k+1))+4) 0):=by
  rw [e1];simp only [List.append_assoc]
 rw [e2,jY _ _ _ _ (atF l P+zM (l.take k)) (by simp only [List.length_append,jD,x5,List.length_take,List.length_replicate,xQ];unfold atF;omega) (by rw [kH,List.length_replicate])];unfold kJ
 have e3:yW (l.take (k+1))=yW (l.take k)++jR l[k]:=by rw [List.take_succ_eq_append_getElem hk,k7];simp [yW]
 rw [e3];simp only [List.append_assoc]
theorem zED {kind:Int} {l:List PC} {P:Nat} (h:zW l≤P):(kJ kind l P l.length).take (P-4)=kO kind l P∧splice (kJ kind l P l.length) (P-4) (zI (jQ (kO kind l P)) 4)=yV kind l P:=by
 have h1:=yS l
 have e:kJ kind l P l.length=kO kind l P++(List.replicate 4 0++ []):=by
  unfold kJ kO;rw [List.take_length,List.drop_length];simp [zM,Nat.mul_comm]
 constructor
 ·rw [e,List.take_left' (bG h)]
 ·rw [e,jY _ _ _ _ (P-4) (bG h) (by rw [zE];rfl)];unfold yV;simp
theorem uP {kind:Int} {l:List PC} {P:Nat} (h:zW l≤P):splice (((List.replicate P (0:UInt8)).set 0 (UInt8.ofNat kind.toNat)).set 1 1) 2 (zI l.length 2)=kJ kind l P 0:=by
 have h1:=yS l;obtain ⟨Q,rfl⟩:∃Q,P=Q+4:=⟨P-4,by omega⟩;have e:((List.replicate (Q+4) (0:UInt8)).set 0 (UInt8.ofNat kind.toNat)).set 1 1= [UInt8.ofNat kind.toNat,1]++(List.replicate 2 0++List.replicate Q 0):=rfl;rw [e,jY _ _ _ _ 2 rfl (by rw [zE];rfl)];unfold kJ;simp only [List.take_zero,yN,yW,List.nil_append,List.drop_zero,List.replicate_append_replicate,kC];simp only [List.cons_append,List.nil_append]
 congr 4
 omega
theorem o4 (kind:Int) (v:Value) (l:List CV) (P:Nat) (hk:zO kind=true) (hP1:512≤P) (hP:P≤65536) (w:World) (hl:RdCs w v l) (hok:∀c∈pcs l,OkC P c) (hsz:zW (pcs l)≤P):
 Calls Tryz.prog 131 #[.int .i64 kind,v,.int .i64 (P:Int)] w fun e w'=>∃g,e= .returned (.slice (some ⟨g,0,none⟩) P P)∧w.heap.size≤g∧OBlk w' g 5 (bvs (yV kind (pcs l) P))∧Below w.heap.size w w':=by
 obtain ⟨A,c,rfl,hm,hc⟩:=hl.slice;have hkd:kind=2∨kind=3:=of_decide_eq_true hk
 have hk1:2≤kind∧kind≤3:=by omega
 have hnP:8+2*l.length+zM (pcs l)≤P:=by rw [yS,zA] at hsz;exact hsz
 have hkb:Value.int .u8 kind=bv (UInt8.ofNat kind.toNat):=by show _=Value.int .u8 ((UInt8.ofNat kind.toNat).toNat:Int);rw [UInt8.toNat_ofNat'];congr 1;omega
 have HKB:=Lib.hid hkb;have HOK:=Lib.hid hok;have HSZ:=Lib.hid hsz
 have p1:(0:Int)<(P:Int):=by omega
 have p2:(1:Int)<(P:Int):=by omega
 have hwn:IntKind.u64.wrap (l.length:Int)=(l.length:Int):=IntWalk.u64_in _ (by omega);clear hkd hk hkb hok hsz;go_enter Tryz.func131,Tryz.ntmps131;go_upto_region 2 with (first|(at_make;refine bQ rfl (.tmp 13) (.tmp 13) rfl _ P rfl rfl rfl (by omega) ?_;intro w1 hb1 hw1 hs1)|fail)
 go_cut [] (fun wx=>OBlk wx w.heap.size 5 (bvs (((List.replicate P 0).set 0 (UInt8.ofNat kind.toNat)).set 1 1))∧Below w.heap.size w wx)
 case first=>
  have z0:w1.cell? ⟨w.heap.size,0,none⟩=some (.int .u8 0):=hb1.cell' (by rw [jZ,List.getElem?_replicate];simp;omega);have z1:w1.cell? ⟨w.heap.size,1,none⟩=some (.int .u8 0):=hb1.cell' (by rw [jZ,List.getElem?_replicate];simp;omega);have f0:w1.frozen? ⟨w.heap.size,0,none⟩=false:=hb1.frozen (by rw [yO,List.length_replicate];omega);have f1:w1.frozen? ⟨w.heap.size,1,none⟩=false:=hb1.frozen (by rw [yO,List.length_replicate];omega);go_wp2_with fail;go_meet;rw [HKB.out];have e0:=(hb1.set 0 (bv (UInt8.ofNat kind.toNat))).set 1 (bv 1);rw [show bv (UInt8.ofNat kind.toNat)=Value.int .u8 ((UInt8.ofNat kind.toNat).toNat:Int) from rfl,show bv 1=Value.int .u8 ((1:UInt8).toNat:Int) from rfl,←g7,←g7] at e0;exact ⟨e0,(hw1.setCell (Nat.le_refl _) _).setCell (Nat.le_refl _) _⟩
 case rest=>
  obtain ⟨hb2,hw2⟩:=hcut;clear hb1 hw1 hs1
  have l2:(((List.replicate P (0:UInt8)).set 0 (UInt8.ofNat kind.toNat)).set 1 1).length=P:=by simp
  have n1:¬P=2:=by omega
  have n2:(2:Int)≤(P:Int):=by omega
  go_upto_region 3 with (fail)
  go_cut [] (fun wx=>OBlk wx w.heap.size 5 (bvs (kJ kind (pcs l) P 0))∧Below w.heap.size w wx)
  case first=>
   go_region_held3 (fun _=>True) (trivial)
    (first
     |(go_at_call 141;(with_reducible refine (bT l.length (by omega) _).mono ?_);rintro e w7 ⟨rfl,hf7,hw7,hs7⟩)
     |(refine xF (by rfl) (.tmp 22) (.tmp 26) (by rfl) _ (P-2) (P-2) w.heap.size 2 (by rfl) _ ((hb2.drew).below hw7 (by have:=hb2.lt;simpa using this)) (fun _=>rfl) (by rw [l2];omega) _ (zI l.length 2) (by rfl) (hf7.rdB (zE _ 2) (by omega)) ?_;intro w8 hb8 hg8)
     |fail)
   go_wp2_with fail;go_meet;rw [Nat.min_eq_left (by rw [zE];omega),List.take_length,←zA l,uP HSZ.out] at hb8;exact ⟨hb8,(hw2.drew.trans (hw7.mono hw2.size)).grown hg8 (Nat.le_trans hw2.size hw7.size) (fun k hk=>Nat.le_of_eq (Option.some.inj hk))⟩
  case rest=>
   obtain ⟨hb3,hw3⟩:=hcut;clear hb2 hw2 l2 n1 n2 hwn;go_wp2_with fail
   go_loopw [8,32] (fun a i wr=>∃k:Nat,k≤l.length∧i= .int .i64 (k:Int)∧a= .int .i64 ((P-4-zM ((pcs l).take k):Nat):Int)∧OBlk wr w.heap.size 5 (bvs (kJ kind (pcs l) P 0))∧Below w.heap.size w wr) (fun _ i _=>l.length-(intOf i).toNat)
   case atStart=>exact ⟨0,Nat.zero_le _,rfl,by simp only [List.take_zero,zM];go_num,hb3,hw3⟩
   case round=>
    clear hb3 hw3;obtain ⟨k,hk,rfl,rfl,hb,hB⟩:=hrel
    by_cases hlt:k<l.length
    ·have ik:(k:Int)<(l.length:Int):=by omega
     have hS:=cQ (pcs l) (k:=k) (by rw [zA];exact hlt);have hS1:=qR (pcs l) (k+1);rw [zV hlt] at hS;have hoc:=HOK.out _ (show l[k].c∈pcs l by rw [←zV hlt];exact List.getElem_mem _);obtain ⟨ad,rfl,c0,c1,c2,c3,c4⟩:=(hl.below hB).at_ hlt;have hx:=(hl.below hB).ok _ (List.getElem_mem hlt);generalize l[k]=x at*;obtain ⟨A1,a1,B1,b1,key,ck,val,pg,ct,rfl,_,_⟩:=CV.form hx;have hlo:=fun W=>qV ⟨.slice A1 key.length a1,.slice B1 val.length b1,⟨key,ck,val,pg,ct⟩⟩ W;unfold zJ at hlo;have hA0:Below wr.heap.size wr (wr.alloc (.cells #[.slice A1 key.length a1,.int .i64 ck,.slice B1 val.length b1,.int .i64 pg,.int .i64 ct] 43)):=(Below.refl wr.heap.size wr).alloc (Nat.le_refl _) _;have hA:=hB.trans (hA0.mono hB.size);have hx':CV.ok (wr.alloc (.cells #[.slice A1 key.length a1,.int .i64 ck,.slice B1 val.length b1,.int .i64 pg,.int .i64 ct] 43)) ⟨.slice A1 key.length a1,.slice B1 val.length b1,⟨key,ck,val,pg,ct⟩⟩:=hx.below hA0;have hbA:=hb.alloc (.cells #[.slice A1 key.length a1,.int .i64 ck,.slice B1 val.length b1,.int .i64 pg,.int .i64 ct] 43);have hS':zM ((pcs l).take (k+1))=zM ((pcs l).take k)+z9 ⟨key,ck,val,pg,ct⟩:=hS
     have hkv:key.length+val.length≤9223372036854775000:=by
      have h1:=hoc.k0;have h2:=hoc.v0;have h3:=hoc.v1;simp only at h1 h2 h3
      by_cases h:ck=1
      ·have:=(h2 h).1;omega
      ·rw [(h3 h).1];simp;omega
     have HS:=Lib.hid hS'
     have hS2:zM ((pcs l).take k)+z9 ⟨key,ck,val,pg,ct⟩+4≤P:=by omega
     generalize zM ((pcs l).take k)=s at*;generalize z9 ⟨key,ck,val,pg,ct⟩=lo at*;clear hS hS' hS1 hx hB hoc hb hA0;go_wp2_with fail;refine (hlo _ hx' hkv).mono ?_;rintro e w2 ⟨rfl,hb2⟩;have hB2:=hA.trans (hb2.mono hA.size);have hbB:=hbA.below hb2 hbA.lt;go_wp2_with fail;go_roundw
     case rel=>exact ⟨k+1,by omega,by go_num,by rw [HS.out];go_num,hbB,hB2⟩
     case measure=>simp [intOf];omega
    ·obtain rfl:k=l.length:=by omega
     have e:(pcs l).take l.length=pcs l:=List.take_of_length_le (by rw [zA];omega);rw [e];clear e;go_wp2_with fail
     go_loopw [8,43] (fun a i wr=>∃k:Nat,k≤l.length∧i= .int .i64 (k:Int)∧a= .int .i64 ((atF (pcs l) P+zM ((pcs l).take k):Nat):Int)∧OBlk wr w.heap.size 5 (bvs (kJ kind (pcs l) P k))∧Below w.heap.size w wr) (fun _ i _=>l.length-(intOf i).toNat)
     case atStart=>exact ⟨0,Nat.zero_le _,rfl,by simp only [List.take_zero,zM];unfold atF;go_num,hb,hB⟩
     case round=>
      clear hb hB;obtain ⟨k,hk,rfl,rfl,hb,hB⟩:=hrel
      by_cases hlt:k<l.length
      ·have ik:(k:Int)<(l.length:Int):=by omega
       have hlp:k<(pcs l).length:=by rw [zA];exact hlt
       have hS:=cQ (pcs l) hlp;have hS1:=qR (pcs l) (k+1);have hcs:=zBQ (kind:=kind) HSZ.out hlp;have hcc:=zBT (kind:=kind) HSZ.out hlp;rw [zV hlt] at hS hcc;rw [←hcs] at hcc;have hlc:(kJ kind (pcs l) P k).length=P:=mW HSZ.out (by omega);have hoc:=HOK.out _ (show l[k].c∈pcs l by rw [←zV hlt];exact List.getElem_mem _);obtain ⟨ad,rfl,c0,c1,c2,c3,c4⟩:=(hl.below hB).at_ hlt;have hx:=(hl.below hB).ok _ (List.getElem_mem hlt);have hx0:=hl.ok _ (List.getElem_mem hlt);generalize l[k]=x at*;obtain ⟨A1,a1,B1,b1,key,ck,val,pg,ct,rfl,_,_⟩:=CV.form hx;have hlo:=fun W=>qV ⟨.slice A1 key.length a1,.slice B1 val.length b1,⟨key,ck,val,pg,ct⟩⟩ W;have hla:=fun W=>zGP ⟨.slice A1 key.length a1,.slice B1 val.length b1,⟨key,ck,val,pg,ct⟩⟩ P hP hoc w W hx0;unfold zJ at hlo hla;have hA0:Below wr.heap.size wr (wr.alloc (.cells #[.slice A1 key.length a1,.int .i64 ck,.slice B1 val.length b1,.int .i64 pg,.int .i64 ct] 43)):=(Below.refl wr.heap.size wr).alloc (Nat.le_refl _) _;have hA:=hB.trans (hA0.mono hB.size);have hbA:=hb.alloc (.cells #[.slice A1 key.length a1,.int .i64 ck,.slice B1 val.length b1,.int .i64 pg,.int .i64 ct] 43);have hcb:=OBlk.new' wr 43 [.slice A1 key.length a1,.int .i64 ck,.slice B1 val.length b1,.int .i64 pg,.int .i64 ct];have hS':zM ((pcs l).take (k+1))=zM ((pcs l).take k)+z9 ⟨key,ck,val,pg,ct⟩:=hS
       have hkv:key.length+val.length≤9223372036854775000:=by
        have h1:=hoc.k0;have h2:=hoc.v0;have h3:=hoc.v1;simp only at h1 h2 h3
        by_cases h:ck=1
        ·have:=(h2 h).1;omega
        ·rw [(h3 h).1];simp;omega
       have hq:atF (pcs l) P+zM ((pcs l).take (k+1))=(atF (pcs l) P+zM ((pcs l).take k))+z9 ⟨key,ck,val,pg,ct⟩:=by rw [hS'];omega
       have hqP:(atF (pcs l) P+zM ((pcs l).take k))+z9 ⟨key,ck,val,pg,ct⟩+4≤P:=by unfold atF;omega
       have HQ:=Lib.hid hq;have HCC:=Lib.hid hcc;have HLC:=Lib.hid hlc;have HCS:=Lib.hid hcs;have hlong:z9 (⟨.slice A1 key.length a1,.slice B1 val.length b1,⟨key,ck,val,pg,ct⟩⟩:CV).c=z9 ⟨key,ck,val,pg,ct⟩:=rfl;have hgl:=hb.lt;have hl5:=dK ⟨key,ck,val,pg,ct⟩;generalize atF (pcs l) P+zM ((pcs l).take k)=q at*;clear hS hS' hS1 hcs hcc hlc hq hB hb hoc hx
       have m1:(0:Int)≤(4:Int)+2*(k:Int):=by omega
       have m2:(4:Int)+2*(k:Int)≤(P:Int):=by omega
       have m3:((4:Int)+2*(k:Int)).toNat=4+2*k:=by omega
       have m4:¬P=4+2*k:=by omega
       have m5:IntKind.i64.wrap (2*(k:Int))=2*(k:Int):=by rw [IntKind.wrap_i64];omega
       have m6:IntKind.i64.wrap ((4:Int)+2*(k:Int))=(4:Int)+2*(k:Int):=by rw [IntKind.wrap_i64];omega
       have m7:IntKind.u64.wrap (q:Int)=(q:Int):=IntWalk.u64_in _ (by omega)
       have m8:(q:Int)≤(P:Int):=by omega
       have m9:¬P=q:=by omega
       go_upto_region 13 with (fail)
       go_cut [] (fun wx=>OBlk wx w.heap.size 5 (bvs (splice (kJ kind (pcs l) P k) (4+2*k) (zI q 2)))∧OBlk wx wr.heap.size 43 [.slice A1 key.length a1,.int .i64 ck,.slice B1 val.length b1,.int .i64 pg,.int .i64 ct]∧Below w.heap.size w wx)
       case first=>
        go_region_held3 (fun _=>True) (trivial)
         (first
          |(go_at_call 141;(with_reducible refine (bT q (by omega) _).mono ?_);rintro e w7 ⟨rfl,hf7,hw7,hs7⟩)
          |(refine xF (by rfl) (.tmp 52) (.tmp 55) (by rfl) _ (P-(4+2*k)) (P-(4+2*k)) w.heap.size (4+2*k) (by rfl) _ ((hbA.drew).below hw7 (by have:=hbA.lt;simpa using this)) (fun _=>rfl) (by rw [HLC.out];omega) (.slice (some ⟨wr.heap.size+1,0,none⟩) 2 2) (zI q 2) (by rfl) (by have h:=hf7.rdB (zE q 2) (by omega);simp at h;exact h) ?_;intro w8 hb8 hg8)
          |fail)
        go_wp2_with fail;go_meet;rw [Nat.min_eq_left (by rw [zE];omega),List.take_length] at hb8;exact ⟨hb8,((hcb.drew).below hw7 (by simp)).grown hg8 (by simp only [ne_eq,Option.some.injEq];omega),(hA.drew.trans (hw7.mono hA.size)).grown hg8 (Nat.le_trans hA.size hw7.size) (fun k hk=>Nat.le_of_eq (Option.some.inj hk))⟩
       case rest=>
        obtain ⟨hb8,hcb8,hB8⟩:=hcut;clear hbA hcb hA hA0 c0 c1 c2 c3 c4 m1 m2 m3 m4 m5 m6;go_upto_region 14 with (fail)
        go_cut [] (fun wx=>OBlk wx w.heap.size 5 (bvs (kJ kind (pcs l) P (k+1)))∧OBlk wx wr.heap.size 43 [.slice A1 key.length a1,.int .i64 ck,.slice B1 val.length b1,.int .i64 pg,.int .i64 ct]∧Below w.heap.size w wx)
        case first=>
         obtain ⟨c0,c1,c2,c3,c4⟩:=zC hcb8;have hcz:=hcb8.lt
         have hlsp:(splice (kJ kind (pcs l) P k) (4+2*k) (zI q 2)).length=P:=by rw [vR (by rw [HLC.out,zE];omega),HLC.out]
         have HLS:=Lib.hid hlsp;clear hlsp
         go_region_held3 (fun w'=>w'.cell? ⟨wr.heap.size,0,none⟩=some (.slice A1 key.length a1)∧w'.cell? ⟨wr.heap.size,1,none⟩=some (.int .i64 ck)∧w'.cell? ⟨wr.heap.size,2,none⟩=some (.slice B1 val.length b1)∧w'.cell? ⟨wr.heap.size,3,none⟩=some (.int .i64 pg)∧w'.cell? ⟨wr.heap.size,4,none⟩=some (.int .i64 ct))
          (first
           |exact ⟨c0,c1,c2,c3,c4⟩
           |exact zC (hcb8.drew.turn hT9 (show ¬wr.heap.size=w.heap.size by omega)))
          (first
           |(go_at_call 165;refine (hla _ hB8.drew w.heap.size q (P-q) (P-q) _ (Nat.le_refl _) hb8.drew (by rw [HLS.out];omega) (Nat.le_refl _) (by omega) (by show z9 ⟨key,ck,val,pg,ct⟩≤_;omega) (by show z9 ⟨key,ck,val,pg,ct⟩<_;omega)).mono ?_;rintro e w9 ⟨⟨v9,rfl⟩,hb9,hB9,hT9⟩)
           |fail)
         go_wp2_with fail;go_meet;rw [HCC.out] at hb9;exact ⟨hb9,hcb8.drew.turn hT9 (show ¬wr.heap.size=w.heap.size by omega),hB9⟩
        case rest=>
         obtain ⟨hb9,hcb9,hB9⟩:=hcut;obtain ⟨c0,c1,c2,c3,c4⟩:=zC hcb9;have hx9:=hx0.below hB9;clear hb8 hcb8 hB8 hla;go_wp2_with fail;refine (hlo _ hx9 hkv).mono ?_;rintro e w10 ⟨rfl,hb10⟩;go_wp2_with fail;go_roundw
         case rel=>exact ⟨k+1,by omega,by go_num,by rw [HQ.out];go_num,hb9.below hb10 hb9.lt,hB9.trans (hb10.mono hB9.size)⟩
         case measure=>simp [intOf];omega
      ·obtain rfl:k=l.length:=by omega
       have e:(pcs l).take l.length=pcs l:=List.take_of_length_le (by rw [zA];omega);rw [e];obtain ⟨hce1,hce2⟩:=zED (kind:=kind) HSZ.out;have hlc:(kJ kind (pcs l) P l.length).length=P:=mW HSZ.out (by rw [zA];omega);rw [zA] at hce1 hce2;have HL:=Lib.hid hlc;have HC1:=Lib.hid hce1;have HC2:=Lib.hid hce2;have hsl:jQ (kO kind (pcs l) P)<4294967296:=rA _;obtain ⟨en,hen⟩:∃en:Nat,en+4=P:=⟨P-4,by omega⟩
       have he:(P:Int)-4=(en:Int):=by omega
       have hws:IntKind.u64.wrap ((jQ (kO kind (pcs l) P):Nat):Int)=((jQ (kO kind (pcs l) P):Nat):Int):=IntWalk.u64_in _ (by omega)
       have hp3:(512:Int)≤(P:Int):=by omega
       have hp4:(P:Int)≤65536:=by omega
       have b1:(0:Int)≤(en:Int):=by omega
       have b2:(en:Int)≤(P:Int):=by omega
       have b3:en≤P:=by omega
       have b6:IntKind.i64.wrap (en:Int)=(en:Int):=by rw [IntKind.wrap_i64];omega
       have HE:=Lib.hid hen
       have b4:en<P:=by omega
       have b5:¬(P=en):=by omega
       rw [show P-4=en by omega] at HC1 HC2;clear hen hce1 hce2 hlc e;generalize kJ kind (pcs l) P l.length=L at*
       have hbd:RdB wr (.slice (some ⟨w.heap.size,0,none⟩) en P) (kO kind (pcs l) P):=by
        have:=RdB.slice0 (n:=en) hb (by rw [HL.out];exact b3) HL.out (by omega)
        rw [HC1.out] at this;exact this
       generalize kO kind (pcs l) P=M at*;go_wp2_with fail
       go_region_held3 (fun _=>True) (trivial)
        (first
         |(go_at_call 143;(with_reducible refine (zBK _ [M] _ ?_).mono ?_);(exact RdL.one hbd.drew _);rintro e w7 ⟨rfl,hw7⟩)
         |(go_at_call 141;(with_reducible refine (rF (jQ M) (by omega) _).mono ?_);rintro e w9 ⟨rfl,hf9,hw9,hs9⟩)
         |(refine xF (by rfl) (.tmp 70) (.tmp 78) (by rfl) _ (P-en) (P-en) w.heap.size en (by rfl) L ((((hb.alloc _).drew).below hw7 (by have:=hb.lt;simp;omega)).below hw9 (by have:=hb.lt;have:=hw7.size;simp at this;omega)) (fun _=>rfl) (by rw [HL.out];omega) (.slice (some ⟨w7.heap.size,0,none⟩) 4 4) (zI (jQ M) 4) (by rfl) (hf9.rdB (zE _ 4) (by omega)) ?_;intro w8 hb8 hg8)
         |fail)
       go_wp2_with fail;go_ret;rw [Nat.min_eq_left (by rw [zE];omega),List.take_length,HC2.out] at hb8;have hb7:Below w.heap.size w w7:=((hB.alloc hB.size _).drew).trans (hw7.mono (by have:=hB.size;simp;omega));have hb9:Below w.heap.size w w9:=hb7.trans (hw9.mono hb7.size);exact ⟨_,rfl,Nat.le_refl _,hb8,hb9.grown hg8 hb9.size (fun j hj=>Nat.le_of_eq (Option.some.inj hj))⟩
theorem tP {w:World}:∀(l:List UInt8) (a:Addr) (acc:ByteArray),(∀j (h:j<l.length),w.cell? (a.add j)=some (.int .u8 (l[j].toNat:Int)))→
 (Extern.Bytes.loadBytes a l.length acc).run Tryz.prog w= .ok ⟨acc.data++l.toArray⟩ w
 | [],a,acc,_=>by simp [Extern.Bytes.loadBytes]
 |x::l,a,acc,h=>by
  have h0:w.cell? a=some (.int .u8 (x.toNat:Int)):=by
   have:=h 0 (by simp)
   simpa [Addr.add] using this
  have ih:=tP l (a.add 1) (acc.push (x.toNat:Int).toNat.toUInt8) (fun j hj=>by
   have:=h (j+1) (by simpa using hj)
   rw [jW,Nat.add_comm 1 j]
   simpa using this)
  simp only [List.length_cons,Extern.Bytes.loadBytes,Sem.run_bind,run_load,h0,Result.andThen];rw [ih]
  congr 1
  apply ByteArray.ext;simp [ByteArray.push]
theorem pM {w:World} {v:Value} {l:List UInt8} (h:RdB w v l):(Extern.Bytes.bytesOf v).run Tryz.prog w= .ok ⟨l.toArray⟩ w:=by
 obtain ⟨A,c,rfl,h1,h2,h3⟩:=h
 cases A with
 |none=>
  have:l= []:=by
   cases l with
   |nil=>rfl
   |cons x r=>obtain ⟨ad,h,_⟩:=h3 0 (by simp);cases h
  subst this;rfl
 |some a=>
  show (Extern.Bytes.loadBytes a l.length .empty).run Tryz.prog w=_
  rw [tP l a .empty (fun j hj=>by obtain ⟨ad,e,hc⟩:=h3 j hj;injection e with e;subst e;exact hc)]
  congr 1
  apply ByteArray.ext
  show (#[]:Array UInt8)++l.toArray=l.toArray
  simp
theorem zJX {w:World} (l:List UInt8):(Extern.Bytes.bytesOf (.string ⟨l.toArray⟩)).run Tryz.prog w= .ok ⟨l.toArray⟩ w:=rfl
theorem uJ:∀(a b:List UInt8),Lib.compareBytes a b=yD a b
 | [],[]=>rfl
 | [],_::_=>rfl
 |_::_,[]=>rfl
 |x::a,y::b=>by unfold Lib.compareBytes yD;rw [uJ a b]
theorem iY {w:World} {u v:Value} {a b:List UInt8} (h:RdB w u a) (h':RdB w v b):(Extern.BytealgCompare.compare #[u,v]).run Tryz.prog w= .ok (.int .i64 (yD a b)) w:=by
 have hs:=Lib.run_compareString (P:=Tryz.prog) ⟨a.toArray⟩ ⟨b.toArray⟩ w;have e:Lib.compareBytes (⟨a.toArray⟩:ByteArray).data.toList (⟨b.toArray⟩:ByteArray).data.toList=yD a b:=uJ a b;rw [e] at hs
 change Sem.run Tryz.prog (do pure (goInt (Extern.BytealgCompare.cmp (←Extern.Bytes.bytesOf (.string ⟨a.toArray⟩)) (←Extern.Bytes.bytesOf (.string ⟨b.toArray⟩))))) w=_ at hs
 change Sem.run Tryz.prog (do pure (goInt (Extern.BytealgCompare.cmp (←Extern.Bytes.bytesOf u) (←Extern.Bytes.bytesOf v)))) w=_
 simp only [Sem.run_bind,zJX,Result.andThen] at hs;simp only [Sem.run_bind,pM h,pM h',Result.andThen];exact hs
theorem vE (u v:Value) (a b:List UInt8) (w:World) (hu:RdB w u a) (hv:RdB w v b):
 Calls Tryz.prog 130 #[u,v] w fun e w'=>e= .returned (.int .i64 (yD a b))∧w=w':=by
 go_enter Tryz.func130,Tryz.ntmps130
 go_wp2
 rw [run_callFunc_extern Tryz.func164 (by kernel_rfl) (by kernel_rfl) (by kernel_rfl) (e:=Extern.BytealgCompare.compare) (by kernel_rfl),iY hu hv];simp only [Result.andThen];rw [Oper.upon_value]
 go_wp2
 go_ret;exact ⟨rfl,rfl⟩
def zEV (w:World) (kind:Int) (l:List PC) (P:Int) (e:Ending) (w':World):Prop:=
 Below w.heap.size w w'∧((zO kind&&zT P)=false∧e= .returned (.tuple #[.slice none 0 0,.int .i64 1])∨
  (zO kind&&zT P)=true∧((kK kind l P.toNat≠0∧e= .returned (.tuple #[.slice none 0 0,.int .i64 (kK kind l P.toNat)]))∨
   (kK kind l P.toNat=0∧∃g,e= .returned (.tuple #[.slice (some ⟨g,0,none⟩) P.toNat P.toNat,.int .i64 0])∧w.heap.size≤g∧OBlk w' g 5 (bvs (yV kind l P.toNat)))))
theorem sX {P:Nat} {l:List PC} (h:∀c∈l,OkC P c) (hP:P≤65536) (hn:l.length≤2000000000000):Fit l:=by
 refine ⟨?_,fun c hc=> ?_⟩
 ·have:=zEJ h hP
  rw [yS];omega
 ·have:=gU (h c hc) hP;omega
theorem o6 (kind:Int) (v:Value) (l:List CV) (P:Int) (hPr:yE P) (w:World) (hl:RdCs w v l) (hn:l.length≤2000000000000):
 Calls Tryz.prog 74 #[.int .i64 kind,v,.int .i64 P] w (zEV w kind (pcs l) P):=by
 obtain ⟨A,c,rfl,hm,hc⟩:=hl.slice;have hKi:=fun W=>bX kind W;have hPa:=fun W=>bW P hPr W
 cases hk:zO kind with
 |false=>
  have HK:Hid ((zO kind&&zT P)=false):=by show _=_;rw [hk];rfl
  rw [hk] at hKi;clear hk;go_enter Tryz.func74,Tryz.ntmps74;go_wp2_with (first|(go_at_call 126;refine (hKi _).mono ?_;rintro e w1 ⟨rfl,rfl⟩)|fail);go_ret2;exact ⟨Below.refl _ _,.inl ⟨HK.out,rfl⟩⟩
 |true=>
  cases hp:zT P with
  |false=>
   have HK:Hid ((zO kind&&zT P)=false):=by show _=_;rw [hk,hp];rfl
   rw [hk] at hKi;rw [hp] at hPa;clear hk hp;go_enter Tryz.func74,Tryz.ntmps74;go_wp2_with (first|(go_at_call 126;refine (hKi _).mono ?_;rintro e w1 ⟨rfl,rfl⟩)|(go_at_call 127;refine (hPa _).mono ?_;rintro e w1 ⟨rfl,rfl⟩)|fail);go_ret2;exact ⟨Below.refl _ _,.inl ⟨HK.out,rfl⟩⟩
  |true=>
   have HK:Hid ((zO kind&&zT P)=true):=by show _=_;rw [hk,hp];rfl
   have HKD:=Lib.hid hk;obtain ⟨hP1,hP2⟩:=zZ hp;rw [hk] at hKi;rw [hp] at hPa;clear hk hp;obtain ⟨Q,rfl⟩:∃Q:Nat,P=(Q:Int):=⟨P.toNat,by omega⟩;unfold zEV;rw [show ((Q:Int)).toNat=Q from rfl]
   have hQ1:512≤Q:=by omega
   have hQ2:Q≤65536:=by omega
   go_enter Tryz.func74,Tryz.ntmps74;go_wp2_with (first|(go_at_call 126;refine (hKi _).mono ?_;rintro e w1 ⟨rfl,rfl⟩)|(go_at_call 127;refine (hPa _).mono ?_;rintro e w1 ⟨rfl,rfl⟩)|fail);clear hKi hPa
   go_loopw [20] (fun i wr=>∃k:Nat,k≤l.length∧i= .int .i64 (k:Int)∧Hid (yT kind Q none (pcs l)=yT kind Q (xH (pcs l) k) ((pcs l).drop k))∧Hid (∀j (hj:j<k) (hjl:j<(pcs l).length),OkC Q (pcs l)[j])∧Below w.heap.size w wr) (fun i _=>l.length-(intOf i).toNat)
   case atStart=>exact ⟨0,Nat.zero_le _,rfl,Lib.hid rfl,Lib.hid (fun j hj=>by omega),Below.refl _ _⟩
   case round=>
    obtain ⟨k,hk,rfl,HSC,HOK,hB⟩:=hrel
    by_cases hlt:k<l.length
    ·have ik:(k:Int)<(l.length:Int):=by omega
     have hlp:k<(pcs l).length:=by rw [zA];exact hlt
     have hst:=dC (kind:=kind) (P:=Q) hlp;have hpk:=kA (pcs l) hlp;rw [←HSC.out] at hst
     have hcx:∀c,(pcs l)[k]=c→Hid (zQ kind Q c=true→∀j (hj:j<k+1) (hjl:j<(pcs l).length),OkC Q (pcs l)[j]):=fun c hc=>Lib.hid (fun hmay j hj hjl=>by
      by_cases e:j=k
      ·subst e;rw [hc];exact xY hmay
      ·exact HOK.out j (by omega) hjl)
     rw [zV hlt] at hst hpk;have hcx:=hcx _ (zV hlt);obtain ⟨ad,rfl,c0,c1,c2,c3,c4⟩:=(hl.below hB).at_ hlt;have hx:=(hl.below hB).ok _ (List.getElem_mem hlt)
     have hprev:∀q,xH (pcs l) k=some q→∃A0 a0,0<k∧RdB wr (.slice A0 q.length a0) q∧wr.cell? (ad.add ((k-1)*5))=some (.slice A0 q.length a0):=fun q hq=>by
      unfold xH at hq
      split at hq
      ·cases hq
      ·have hk1:k-1<l.length:=by omega
       obtain ⟨_,ea,d0,_⟩:=(hl.below hB).at_ hk1
       cases ea
       have hxp:=(hl.below hB).ok _ (List.getElem_mem hk1)
       have e1:(pcs l).getD (k-1) default=l[k-1].c:=by simp [List.getD,pcs,hk1]
       rw [e1] at hq;injection hq with hq;obtain ⟨A0,a0,he,_⟩:=hxp.k.form;rw [he,hq] at d0;have hk2:=hxp.k;rw [he,hq] at hk2;exact ⟨A0,a0,by omega,hk2,d0⟩
     generalize l[k]=x at*;obtain ⟨A1,a1,B1,b1,key,ck,val,pg,ct,rfl,_,_⟩:=CV.form hx;have hma:=fun W=>zBF ⟨.slice A1 key.length a1,.slice B1 val.length b1,⟨key,ck,val,pg,ct⟩⟩ kind Q hQ2 W;unfold zJ at hma;have hA0:Below wr.heap.size wr (wr.alloc (.cells #[.slice A1 key.length a1,.int .i64 ck,.slice B1 val.length b1,.int .i64 pg,.int .i64 ct] 43)):=(Below.refl wr.heap.size wr).alloc (Nat.le_refl _) _;have hA:=hB.trans (hA0.mono hB.size);have hx':CV.ok (wr.alloc (.cells #[.slice A1 key.length a1,.int .i64 ck,.slice B1 val.length b1,.int .i64 pg,.int .i64 ct] 43)) ⟨.slice A1 key.length a1,.slice B1 val.length b1,⟨key,ck,val,pg,ct⟩⟩:=hx.below hA0;have hcb:=OBlk.new' wr 43 [.slice A1 key.length a1,.int .i64 ck,.slice B1 val.length b1,.int .i64 pg,.int .i64 ct]
     have hst':yT kind Q none (pcs l)=if zQ kind Q ⟨key,ck,val,pg,ct⟩=false then 62 else if qW (xH (pcs l) k) key=false then 63 else yT kind Q (xH (pcs l) (k+1)) ((pcs l).drop (k+1)):=hst
     clear hst;have hgl:=hB.size;have hxk:=hx'.k;simp only at hxk;clear hx hB;go_wp2_with fail;refine (hma _ hx').mono ?_;rintro e w2 ⟨rfl,hb2⟩;have hA2:=hA.trans (hb2.mono hA.size);have hcb2:=hcb.below hb2 hcb.lt;have hA02:=hA0.trans (hb2.mono hA0.size);rcases Bool.eq_false_or_eq_true (zQ kind Q ⟨key,ck,val,pg,ct⟩) with hmy|hmy
     ·rw [if_neg (by rw [hmy];simp)] at hst';have HCX:=Lib.hid (hcx.out hmy);clear hma hcx hcb hA hA0 hx' c0 c1 c2 c3 c4 HOK;have k0:w2.cell? ⟨wr.heap.size,0,none⟩=some (.slice A1 key.length a1):=hcb2.cell' rfl;have hkr:RdB w2 (.slice A1 key.length a1) key:=hxk.below hb2 (Nat.le_refl _);rw [hmy];clear hmy
      by_cases hk0:0<k
      ·obtain ⟨kk,rfl⟩:∃kk,k=kk+1:=⟨k-1,by omega⟩;obtain ⟨q,hq⟩:∃q,xH (pcs l) (kk+1)=some q:=⟨_,kA (pcs l) (by rw [zA];omega)⟩;obtain ⟨A0,a0,_,hqr,hqc⟩:=hprev q hq;rw [hq] at hst';rw [show kk+1-1=kk by omega] at hqc;have hq2:w2.cell? (ad.add (kk*5))=some (.slice A0 q.length a0):=(hA02.cell (World.block_lt_of_cell? wr _ hqc)).trans hqc;have hqr2:=hqr.below hA02 (Nat.le_refl _)
       have j1:(0:Int)≤(kk:Int):=by omega
       have j2:(kk:Int)<(l.length:Int):=by omega
       have j3:kk<l.length:=by omega
       have j4:IntKind.i64.wrap (kk:Int)=(kk:Int):=by rw [IntKind.wrap_i64];omega
       have j5:(0:Int)<(kk:Int)+1:=by omega
       have hcmp:=fun m=>vE _ _ _ _ (w2.drewN m) (show RdB (w2.drewN m) _ _ from hqr2) (show RdB (w2.drewN m) _ _ from hkr)
       have hst2:yT kind Q none (pcs l)=if decide (yD q key<0)=false then 63 else yT kind Q (xH (pcs l) (kk+1+1)) ((pcs l).drop (kk+1+1)):=hst'
       have HST:=Lib.hid hst2;have HPK:=Lib.hid hpk;have HCM:=Lib.hid hcmp;clear hst' hst2 hq hprev hqc hqr hpk hqr2 hkr hcmp hxk;generalize yD q key=oc at*
       by_cases hoc:oc<0
       ·have i1:¬(0:Int)≤oc:=by omega
        go_upto_region 8 with (fail)
        go_region_held3 (fun w'=>w'.cell? (ad.add (kk*5))=some (.slice A0 q.length a0)∧w'.cell? ⟨wr.heap.size,0,none⟩=some (.slice A1 key.length a1))
         (first|exact ⟨hq2,k0⟩)
         (first
          |(go_at_call 130;refine (HCM.out 1).mono ?_;rintro e w7 ⟨rfl,rfl⟩)
          |fail)
        go_wp2_with fail;exact ⟨⟨kk+1+1,by omega,by go_num,Lib.hid (by rw [HST.out,if_neg (by simp [hoc])]),HCX,hA2.drew⟩,by simp [intOf];omega⟩
       ·have i1:(0:Int)≤oc:=by omega
        have henc:kK kind (pcs l) Q=63:=by
         have:=HST.out
         rw [if_pos (by simp [hoc])] at this;unfold kK;rw [this];rfl
        have HE:=Lib.hid henc;clear henc;go_upto_region 8 with (fail)
        go_region_held3 (fun w'=>w'.cell? (ad.add (kk*5))=some (.slice A0 q.length a0)∧w'.cell? ⟨wr.heap.size,0,none⟩=some (.slice A1 key.length a1))
         (first|exact ⟨hq2,k0⟩)
         (first
          |(go_at_call 130;refine (HCM.out 1).mono ?_;rintro e w7 ⟨rfl,rfl⟩)
          |fail)
        go_wp2_with fail;go_ret2;rw [HE.out];exact ⟨hA2.drew,.inr ⟨HK.out,.inl ⟨by omega,rfl⟩⟩⟩
      ·obtain rfl:k=0:=by omega
       have e0:qW (xH (pcs l) 0) key=true:=rfl;rw [e0,if_neg (by simp)] at hst';have HST:=Lib.hid hst';clear hst' e0;go_upto_region 8 with (fail)
       go_region
       go_wp2_with fail;exact ⟨⟨1,by omega,rfl,Lib.hid HST.out,HCX,hA2.drew⟩,by simp [intOf];omega⟩
     ·have henc:kK kind (pcs l) Q=62:=by
       rw [if_pos hmy] at hst';unfold kK;rw [hst'];rfl
      have HE:=Lib.hid henc;rw [hmy];clear hst' hmy henc;go_wp2_with fail;go_ret2;rw [HE.out];exact ⟨hA2,.inr ⟨HK.out,.inl ⟨by omega,rfl⟩⟩⟩
    ·obtain rfl:k=l.length:=by omega
     have hfin:yT kind Q none (pcs l)=0:=by rw [HSC.out,List.drop_of_length_le (by rw [zA];omega)];rfl
     have hokc:∀c∈pcs l,OkC Q c:=fun c hc=>by
      obtain ⟨j,hj,rfl⟩:=List.getElem_of_mem hc;exact HOK.out j (by rw [zA] at hj;exact hj) hj
     have hfit:=sX hokc hQ2 (by rw [zA];exact hn);have hlr:=hl.below hB;have hSz:=aB kind _ l wr hlr hfit;have hs1:=hfit.1;have hLd:=fun (h:zW (pcs l)≤Q) W hb=>o4 kind _ l Q HKD.out hQ1 hQ2 W (hl.below hb) hokc h;have HL:=Lib.hid hLd;have HF:=Lib.hid hfin;clear hlr hfit hokc hfin hLd HOK HSC;go_wp2_with fail;refine hSz.mono ?_;rintro e w2 ⟨rfl,hb2⟩;have hB2:=hB.trans (hb2.mono hB.size);clear hSz
     by_cases hsz:zW (pcs l)≤Q
     ·have hE:kK kind (pcs l) Q=0:=vS.2 ⟨HF.out,hsz⟩;have HE:=Lib.hid hE;have hL2:=HL.out hsz w2 hB2
      have i1:¬(Q:Int)<(zW (pcs l):Int):=by omega
      clear hE hsz HL;go_wp2_with fail;refine hL2.mono ?_;rintro e w3 ⟨g,rfl,hg,hb3,hw3⟩;go_wp2_with fail;go_ret2;exact ⟨hB2.trans (hw3.mono hB2.size),.inr ⟨HK.out,.inr ⟨HE.out,g,rfl,Nat.le_trans hB2.size hg,hb3⟩⟩⟩
     ·have hE:kK kind (pcs l) Q=61:=by
       unfold kK;rw [if_neg (by rw [HF.out];simp),if_pos (by omega)]
      have HE:=Lib.hid hE
      have i1:(Q:Int)<(zW (pcs l):Int):=by omega
      clear hE hsz HL;go_wp2_with fail;go_ret2;rw [HE.out];exact ⟨hB2,.inr ⟨HK.out,.inl ⟨by omega,rfl⟩⟩⟩
end Go.Proofs.YtfcnkpofcekmgaaGreat
