/- espalierlaw05.lent, kept: walks. -/
import Derived.Test.YtdnfbjmapdgnnaaMem3
import Derived.Test.YtdnfbjmapdgnnaaMetaOk
import Derived.Test.YtdnfbjmapdgnnaaStep
namespace Go.Proofs.Ytdnfbjmapdgnnaa
open Go.RowKit
theorem OwB.room {w : World} {b n c : Nat} {A : Option Addr} {l : List UInt8} (h : OwB w b (.slice A n c) l) : n ≤ c ∧ c ≤ 9223372036854775807 := by
  rcases h.form with ⟨h, _⟩ | ⟨g', cap', h, _, _, h1, h2⟩
  · injection h with _ h3 h4
    omega
  · injection h with _ h3 h4
    simp only [maxLen] at h2
    omega
def spareL : List UInt8 := [97, 110, 100, 32, 109, 111, 114, 101]
set_option maxHeartbeats 1000000 in
theorem lent_any (v : Value) (l : List UInt8) (w : World) (hv : RdB w v l) (hl : l.length ≤ 140737488351232) :
    Calls Try.prog 15 #[v] w fun e w' => ∃ g cap, e = .returned (.slice (some ⟨g, 0, none⟩) l.length cap) ∧ OwB w' w.heap.size (.slice (some ⟨g, 0, none⟩) (l.length + 8) cap) (l ++ spareL) ∧ Below w.heap.size w w' := by
  obtain ⟨A, c, rfl, hm⟩ := hv.form
  have q1 := run_B_string hv
  obtain ⟨c2, w2, q2, ho2, hb2, hs2⟩ := run_string_B w ⟨l.toArray⟩ (by show l.toArray.size ≤ _; simp [maxLen]; omega)
  have hsz : (⟨l.toArray⟩ : ByteArray).size = l.length := by show l.toArray.size = _; simp
  rw [hsz] at q2 ho2
  have hl8 : l.length + 8 ≤ 140737488355328 := by omega
  go_enter Try.func15, Try.ntmps15
  go_wp2_with (first
    | (at_builtin; refine wp_append_S rfl (.tmp 9) _ rfl w.heap.size _ l rfl ho2 ⟨#[97, 110, 100, 32, 109, 111, 114, 101]⟩ rfl hl8 hb2.size ?_; intro v3 w3 ho3 hg3 hbk3; obtain ⟨g3, c3, rfl⟩ := ho3.some' (n := l.length + 8) (by simp) (by omega); have hc3 := ho3.room; have hc4 : (l.length : Int) ≤ (c3 : Int) := by omega)
    | fail)
  go_ret
  exact ⟨g3, c3, rfl, ho3, hb2.grown hg3 hb2.size (fun k hk => Nat.le_of_eq (Option.some.inj hk))⟩
end Go.Proofs.Ytdnfbjmapdgnnaa
