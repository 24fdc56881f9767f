/- Texts joined: packed.Page.Remove; node.Node in words of pieces -/
import Derived.Test.YtfcnkpofcekmgaaGreatNW3
import Derived.Test.YtfcnkpofcekmgaaGreatNW21
import Derived.Test.YtfcnkpofcekmgaaGreatNW22
import Derived.Test.YtfcnkpofcekmgaaGreatNW23
import Derived.Test.YtfcnkpofcekmgaaGreatNW25
-- packed.Page.Remove: the walk.
namespace Go.Proofs.YtfcnkpofcekmgaaGreat
open Go.RowKit
section
variable {w0 w : World} {L : List Ent} {p P used waste ug : Nat} {kind : Int} {U PV N B : Option Addr} {uc pvc n3 c7 : Nat} {l : List CV} {pre : List UInt8}
end
end Go.Proofs.YtfcnkpofcekmgaaGreat

-- node.Node in words of pieces: a plain page, a packed page, alike.
namespace Go.Proofs.YtfcnkpofcekmgaaGreat
open Go.RowKit
/-- A plain page. -/
def NdP1 (w0 w : World) (L : List Ent) (p P : Nat) (kind : Int) (s : KP) : Prop :=
  ∃ u l, pcs l = s.l ∧ RngC l ∧ Sep w0 w (pgE p kind P (sizeF (pcs l) : Nat) u l :: L)
abbrev NdP2 := PgK
abbrev NdI1 (kind : Int) (P : Nat) (s : KP) : Prop := Wk kind P s.l
abbrev NdI2 (kind : Int) (P : Nat) (s : KP) : Prop := KInv kind P s
def plS (l : List PC) : KP := ⟨l, [], 0⟩
def insZ1 (kind : Int) (P : Nat) (s : KP) (i : Int) (gone : Nat) (c : PC) : Int := insZ kind P s.l i gone c
def insS1 (kind : Int) (P : Nat) (s : KP) (i : Int) (gone : Nat) (c : PC) : KP := plS (insL kind P s.l i gone c)
def usd1 (_ : Int) (s : KP) : Nat := sizeF s.l
def insZ2 (kind : Int) (P : Nat) (s : KP) (i : Int) (gone : Nat) (c : PC) : Int := insKZ kind P s.l i gone c
def insS2 (kind : Int) (P : Nat) (s : KP) (i : Int) (gone : Nat) (c : PC) : KP := insKS kind P s i gone c
theorem NdI1.ins {kind : Int} {P : Nat} {s : KP} (h : NdI1 kind P s) (i : Int) {gone : Nat} (_ : gone ≤ 1) (c : PC) : NdI1 kind P (insS1 kind P s i gone c) := Wk.ins h i gone c
theorem NdI2.ins {kind : Int} {P : Nat} {s : KP} (h : NdI2 kind P s) (i : Int) {gone : Nat} (hg : gone ≤ 1) (c : PC) : NdI2 kind P (insS2 kind P s i gone c) := KInv.ins h i hg c
theorem NdI1.len {kind : Int} {P : Nat} {s : KP} (h : NdI1 kind P s) (hP : P ≤ 65536) : s.l.length ≤ 32768 := Wk.len h hP
theorem NdI2.len {kind : Int} {P : Nat} {s : KP} (h : NdI2 kind P s) (hP : P ≤ 65536) : s.l.length ≤ 32768 := by have := KInv.len h hP; omega
theorem NdI1.rise {kind : Int} {P : Nat} {s : KP} (h : NdI1 kind P s) : Rising s.l := Wk.rise h
theorem NdI2.rise {kind : Int} {P : Nat} {s : KP} (h : NdI2 kind P s) : Rising s.l := KInv.rise h
theorem NdI1.ok {kind : Int} {P : Nat} {s : KP} (h : NdI1 kind P s) : ∀ c ∈ s.l, OkC P c := fun c hc => may_ok (Wk.may h c hc)
theorem NdI2.ok {kind : Int} {P : Nat} {s : KP} (h : NdI2 kind P s) : ∀ c ∈ s.l, OkC P c := fun c hc => may_ok (KInv.may h c hc)
section
variable {w0 w w' : World} {L L' : List Ent} {p P : Nat} {kind : Int} {s : KP}
theorem NdP1.below (h : NdP1 w0 w L p P kind s) (hb : Below w.heap.size w w') : NdP1 w0 w' L p P kind s := by
  obtain ⟨u, l, h1, h2, h3⟩ := h; exact ⟨u, l, h1, h2, h3.below hb⟩
theorem NdP2.below (h : NdP2 w0 w L p P kind s) (hb : Below w.heap.size w w') : NdP2 w0 w' L p P kind s := PgK.below h hb
/-- One fact about all pieces. -/
theorem NdP1.sep (h : NdP1 w0 w L p P kind s) : ∃ E, Sep w0 w (E :: L) ∧ ∀ (W : World) (M : List Ent), Sep w0 W (E :: M) → NdP1 w0 W M p P kind s := by
  obtain ⟨u, l, h1, h2, h3⟩ := h; exact ⟨_, h3, fun _ _ h => ⟨u, l, h1, h2, h⟩⟩
theorem NdP2.sep (h : NdP2 w0 w L p P kind s) : ∃ E, Sep w0 w (E :: L) ∧ ∀ (W : World) (M : List Ent), Sep w0 W (E :: M) → NdP2 w0 W M p P kind s := by
  obtain ⟨u, pv, l, h1, h2, h3⟩ := h; exact ⟨_, h3, fun _ _ h => ⟨u, pv, l, h1, h2, h⟩⟩
theorem NdIns1 (hS : NdP1 w0 w L p P kind s) (hk : NdI1 kind P s) (_ : kind = 2 ∨ kind = 3) (hP : P ≤ 65536) (x : CV) (hx : XIn L x) (i : Int) (hi : i64r i) :
    Calls Tryz.prog 201 #[.pointer (some ⟨p, 0, none⟩), .int .i64 i, cellV x] w fun e w' => e = .returned (.int .i64 (insZ1 kind P s i 0 x.c)) ∧ NdP1 w0 w' L p P kind (insS1 kind P s i 0 x.c) := by
  obtain ⟨u, l, h1, h2, h3⟩ := hS
  unfold NdI1 at hk
  rw [← h1] at hk
  refine (PInsert_sep h3 h2 hk hP x hx i hi).mono ?_
  rintro e w' ⟨u', l', rfl, hl, hr, hS'⟩
  exact ⟨by unfold insZ1; rw [h1], u', l', by rw [hl, h1]; rfl, hr, hS'⟩
theorem NdIns2 (hS : NdP2 w0 w L p P kind s) (hk : NdI2 kind P s) (hkd : kind = 2 ∨ kind = 3) (hP : P ≤ 65536) (x : CV) (hx : XIn L x) (i : Int) (hi : i64r i) :
    Calls Tryz.prog 219 #[.pointer (some ⟨p, 0, none⟩), .int .i64 i, cellV x] w fun e w' => e = .returned (.int .i64 (insZ2 kind P s i 0 x.c)) ∧ NdP2 w0 w' L p P kind (insS2 kind P s i 0 x.c) :=
  KInsert_sep hS hk hkd hP x hx i hi
theorem NdByt1 (hS : NdP1 w0 w L p P kind s) (hk : NdI1 kind P s) (hkd : isKindB kind = true) (hp : isPowB (P : Int) = true) :
    Calls Tryz.prog 198 #[.pointer (some ⟨p, 0, none⟩)] w fun e w' => ∃ v, e = .returned v ∧ NdP1 w0 w' (bytesE v (laidF kind s.l P) :: L) p P kind s := by
  obtain ⟨u, l, h1, h2, h3⟩ := hS
  unfold NdI1 at hk
  rw [← h1] at hk
  have hr := isPowB_range hp
  refine (PBytes_sep h3 h2 hk hkd (by omega) (by omega)).mono ?_
  rintro e w' ⟨v, rfl, hS'⟩
  rw [h1] at hS'
  exact ⟨v, rfl, u, l, h1, h2, by rw [h1]; exact hS'.sw1⟩
theorem NdFnd1 (hS : NdP1 w0 w L p P kind s) (_ : NdI1 kind P s) (_ : P ≤ 65536) (vk : Value) (key : List UInt8) (hv : RdB w vk key) :
    Calls Tryz.prog 200 #[.pointer (some ⟨p, 0, none⟩), vk] w fun e w' => e = .returned (.tuple #[.int .i64 (findF key s.l : Nat), .bool (isF key s.l)]) ∧ Below w.heap.size w w' := by
  obtain ⟨u, l, h1, h2, h3⟩ := hS
  rw [← h1]
  exact PFind_any (h3.pgAt h2) vk key hv
theorem NdLen1 (hS : NdP1 w0 w L p P kind s) : Calls Tryz.prog 203 #[.pointer (some ⟨p, 0, none⟩)] w fun e w' => e = .returned (.int .i64 (s.l.length : Int)) ∧ w = w' := by
  obtain ⟨u, l, h1, h2, h3⟩ := hS
  rw [← h1, pcs_length]
  exact PLen_any (h3.pgAt h2)
theorem NdLen2 (hS : NdP2 w0 w L p P kind s) : Calls Tryz.prog 221 #[.pointer (some ⟨p, 0, none⟩)] w fun e w' => e = .returned (.int .i64 (s.l.length : Int)) ∧ w = w' := by
  obtain ⟨u, pv, l, h1, h2, h3⟩ := hS
  rw [← h1, pcs_length]
  exact KLen_any (h3.kAt h2)
theorem NdUsd1 (hS : NdP1 w0 w L p P kind s) : Calls Tryz.prog 206 #[.pointer (some ⟨p, 0, none⟩)] w fun e w' => e = .returned (.int .i64 (usd1 kind s : Nat)) ∧ w = w' := by
  obtain ⟨u, l, h1, h2, h3⟩ := hS
  unfold usd1
  rw [← h1]
  exact PUsed_any (h3.pgAt h2)
end
end Go.Proofs.YtfcnkpofcekmgaaGreat
