/- Texts joined: espalierref06.bytesOf, Size; The page sizes as powers of two.; espalierref03.IsPage; espalierref01.SumOf; espalierref06.Encode; Encode of both sides, told alike. -/
import Derived.Test.YtfcnkpofcekmgaaGreatNT3
import Derived.Test.YtfcnkpofcekmgaaGreatNT4
import Derived.Test.YtfcnkpofcekmgaaGreatNT6
import Derived.Test.YtfcnkpofcekmgaaGreatNT19
import Derived.Laws.Cover1
-- espalierref06.bytesOf, Size: walks.
namespace Go.Proofs.YtfcnkpofcekmgaaGreat
open Go.RowKit
end Go.Proofs.YtfcnkpofcekmgaaGreat

-- The page sizes as powers of two.
namespace Go.Proofs.YtfcnkpofcekmgaaGreat
open Go.RowKit
end Go.Proofs.YtfcnkpofcekmgaaGreat

-- espalierref03.IsPage: the walk.
namespace Go.Proofs.YtfcnkpofcekmgaaGreat
open Go.RowKit
end Go.Proofs.YtfcnkpofcekmgaaGreat

-- espalierref01.SumOf: the walk.
namespace Go.Proofs.YtfcnkpofcekmgaaGreat
open Go.RowKit
end Go.Proofs.YtfcnkpofcekmgaaGreat

-- espalierref06.Encode: the walk.
namespace Go.Proofs.YtfcnkpofcekmgaaGreat
open Go.RowKit
end Go.Proofs.YtfcnkpofcekmgaaGreat

-- Encode of both sides, told alike.
namespace Go.Proofs.YtfcnkpofcekmgaaGreat
open Go.RowKit
def encZ (kind : Int) (l : List PC) (P : Int) : Int := if (isKindB kind && isPowB P) = true then encE kind l P.toNat else 1
def encL (kind : Int) (l : List PC) (P : Int) : List UInt8 := if encZ kind l P = 0 then laidF kind l P.toNat else []
theorem PEncZ (kind : Int) (v : Value) (l : List CV) (P : Int) (hPr : i64r P) (w : World) (hl : RdCs w v l) (hn : l.length ≤ 2000000000000) :
    Calls Tryz.prog 74 #[.int .i64 kind, v, .int .i64 P] w fun e w' => ∃ u, e = .returned (.tuple #[u, .int .i64 (encZ kind (pcs l) P)]) ∧ OwB w' w.heap.size u (encL kind (pcs l) P) ∧ Below w.heap.size w w' := by
  refine (PEncode_any kind v l P hPr w hl hn).mono ?_
  unfold EncAt encL encZ
  rintro e w' ⟨hb, ⟨h1, rfl⟩ | ⟨h1, ⟨h2, rfl⟩ | ⟨h2, g, rfl, hg, ho⟩⟩⟩
  · rw [if_neg (by rw [h1]; simp), if_neg (by decide)]
    exact ⟨_, rfl, OwB.nil _ _, hb⟩
  · rw [if_pos h1, if_neg h2]
    exact ⟨_, rfl, OwB.nil _ _, hb⟩
  · rw [if_pos h1, if_pos h2, h2]
    rw [Bool.and_eq_true] at h1
    have hP := isPowB_range h1.2
    have hl := laidF_length (kind := kind) (encE_zero.1 h2).2
    have := ho.owB' (base := w.heap.size) hg (by rw [hl]; simp only [maxLen]; omega)
    rw [hl] at this
    exact ⟨_, rfl, this, hb⟩
end Go.Proofs.YtfcnkpofcekmgaaGreat
