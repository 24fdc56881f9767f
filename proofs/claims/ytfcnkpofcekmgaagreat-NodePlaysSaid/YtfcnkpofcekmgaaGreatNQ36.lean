/- Texts joined. -/
import Derived.Test.YtfcnkpofcekmgaaGreatNQ35
set_option maxRecDepth 100000
set_option maxHeartbeats 64000000
namespace Go.Proofs.YtfcnkpofcekmgaaGreat
open Go.RowKit
section
variable (sz:List PC→Nat) (fit:List PC→Bool) (kind:Int) (l:List PC)
end
structure MayL (kind:Int) (P:Nat) (l:List PC):Prop where
 rise:Rising l
 may:∀c∈l,zQ kind P c=true
theorem MayL.take {kind:Int} {P:Nat} {l:List PC} (h:MayL kind P l) (k:Nat):MayL kind P (l.take k):=⟨h.rise.sublist (List.take_sublist _ _),fun c hc=>h.may c (List.mem_of_mem_take hc)⟩
theorem MayL.drop {kind:Int} {P:Nat} {l:List PC} (h:MayL kind P l) (k:Nat):MayL kind P (l.drop k):=⟨h.rise.sublist (List.drop_sublist _ _),fun c hc=>h.may c (List.mem_of_mem_drop hc)⟩
theorem zKY {P:Nat} {c:PC} (h:zQ 3 P c=true):zQ 3 P (zKS c)=true:=by
 unfold zQ at h⊢
 split at h
 ·cases h
 ·rename_i hc
  have:¬(P/8<(zKS c).key.length∨((3:Int)=2∧(zKS c).key.length=0)∨((zKS c).kind≠1∧0<(zKS c).val.length)):=by
   rintro (e|e|e)
   ·have e':P/8<0:=e;omega
   ·exact absurd e.1 (by decide)
   ·exact hc (.inr (.inr e))
  rw [if_neg this];rw [if_pos rfl] at h⊢;exact h
theorem zKH {a b:List UInt8} (h:yD a b<0):yD [] b<0:=by
 cases b with
 |nil=>cases a<;>simp [yD] at h
 |cons y b=>simp [yD]
theorem MayL.right {kind:Int} {P:Nat} {l:List PC} (h:MayL kind P l) (k:Nat):MayL kind P (bA kind l k):=by
 have hd:=h.drop k;unfold bA
 split
 ·rename_i hk
  subst hk
  cases hl:l.drop k with
  |nil=>exact ⟨List.Pairwise.nil,by simp⟩
  |cons c r=>
   rw [hl] at hd;have hp:=List.pairwise_cons.1 hd.rise;exact ⟨List.pairwise_cons.2 ⟨fun b hb=>zKH (hp.1 b hb),hp.2⟩,fun d hd2=>by rcases List.mem_cons.1 hd2 with rfl|hd2;exact zKY (hd.may c (by simp));exact hd.may d (by simp [hd2])⟩
 ·exact hd
theorem zKX {kind:Int} {l:List PC} {k q:Nat} (hq:q<(bA kind l k).length) (hn:¬(kind=3∧q=0)):∃h:k+q<l.length,(bA kind l k)[q]=l[k+q]:=by
 have hl:=zKM kind l k
 have hlt:k+q<l.length:=by omega
 refine ⟨hlt,?_⟩
 have e:(bA kind l k)[q]? =l[k+q]?:=by
  rw [←List.getElem?_drop];unfold bA
  split
  ·rename_i hk
   cases l.drop k with
   |nil=>rfl
   |cons x r=>
    cases q with
    |zero=>exact absurd ⟨hk,rfl⟩ hn
    |succ q=>rfl
  ·rfl
 rw [List.getElem?_eq_getElem hq,List.getElem?_eq_getElem hlt] at e;exact Option.some.inj e
theorem PreOk.right {kind:Int} {l:List PC} {pre:List UInt8} (h:PreOk kind l pre) (k:Nat):PreOk kind (bA kind l k) pre:=fun q hq hn=>by
 obtain ⟨h1,e⟩:=zKX hq hn;rw [e];exact h _ h1 (by omega)
theorem PreOk.take {kind:Int} {l:List PC} {pre:List UInt8} (h:PreOk kind l pre) (k:Nat):PreOk kind (l.take k) pre:=fun q hq hn=>by
 rw [List.getElem_take];exact h q _ hn
end Go.Proofs.YtfcnkpofcekmgaaGreat
