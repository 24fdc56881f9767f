/- A chain of pages, as a plain function over a bench. -/
import Derived.Test.YtgnhakgfgdelpaaSpWF
namespace Go.Proofs.Ytgnhakgfgdelpaa
open Go.RowKit
abbrev ChR := Int × List Int × List UInt8 × BS
def stepQ (page : Nat) (left : Int) (len : Nat) : Option (Int × List UInt8) → Int
  | none => 60
  | some (next, d) => if len ≠ page then 60 else if (d.length : Int) ≠ min left ((page : Int) - 16) ∨ decide (next = 0) ≠ decide (left ≤ (page : Int) - 16) then 90 else 0
def stepZ (S : BS) (a left : Int) (pages : List Int) : Int :=
  if a ∈ pages then 90 else match S.held a with
  | none => 30
  | some b => stepQ S.page left b.length (decS b)
def stepS (S : BS) (a : Int) (pages : List Int) : BS := if a ∈ pages then S else match S.held a with | none => S | some _ => S.read
def stepN (S : BS) (a : Int) : Int := match S.held a with | some b => decN b | none => 0
def stepD (S : BS) (a : Int) : List UInt8 := match S.held a with | some b => decD b | none => []
def chF (most : Int) : Nat → BS → Int → Int → List Int → List UInt8 → ChR
  | 0, S, _, _, pages, out => (0, pages, out, S)
  | f + 1, S, a, left, pages, out => if most ≤ (out.length : Int) then (0, pages, out, S) else
      if stepZ S a left pages = 0 then chF most f S.read (stepN S a) (left - (stepD S a).length) (pages ++ [a]) (out ++ stepD S a) else (stepZ S a left pages, [], [], stepS S a pages)
section
variable {most : Int} {f : Nat} {S : BS} {a left : Int} {pages : List Int} {out : List UInt8} {b d : List UInt8} {next : Int}
theorem chF_done (h : most ≤ (out.length : Int)) : chF most f S a left pages out = (0, pages, out, S) := by
  cases f with
  | zero => rfl
  | succ f => rw [chF, if_pos h]
theorem chF_bad {z : Int} {S' : BS} (h : ¬ most ≤ (out.length : Int)) (hf : 1 ≤ f) (hz : stepZ S a left pages = z) (h0 : z ≠ 0) (hs : stepS S a pages = S') : chF most f S a left pages out = (z, [], [], S') := by
  obtain ⟨f, rfl⟩ : ∃ g, f = g + 1 := ⟨f - 1, by omega⟩
  rw [chF, if_neg h, hz, if_neg h0, hs]
theorem chF_next (h : ¬ most ≤ (out.length : Int)) (hf : 1 ≤ f) (hz : stepZ S a left pages = 0) (hn : stepN S a = next) (hd : stepD S a = d) : chF most f S a left pages out = chF most (f - 1) S.read next (left - d.length) (pages ++ [a]) (out ++ d) := by
  obtain ⟨f, rfl⟩ : ∃ g, f = g + 1 := ⟨f - 1, by omega⟩
  rw [chF, if_neg h, if_pos hz, hn, hd]
  rfl
theorem step_in (h : a ∈ pages) : stepZ S a left pages = 90 ∧ stepS S a pages = S := by
  unfold stepZ stepS
  rw [if_pos h, if_pos h]
  exact ⟨rfl, rfl⟩
theorem step_none (h : a ∉ pages) (hh : S.held a = none) : stepZ S a left pages = 30 ∧ stepS S a pages = S := by
  unfold stepZ stepS
  rw [if_neg h, if_neg h, hh]
  exact ⟨rfl, rfl⟩
theorem step_some (h : a ∉ pages) (hh : S.held a = some b) : stepZ S a left pages = stepQ S.page left b.length (decS b) ∧ stepS S a pages = S.read ∧ stepN S a = decN b ∧ stepD S a = decD b := by
  unfold stepZ stepS stepN stepD
  rw [if_neg h, if_neg h, hh]
  exact ⟨rfl, rfl, rfl, rfl⟩
theorem stepQ_len {page len : Nat} (h : len ≠ page) : stepQ page left len (some (next, d)) = 60 := by show (if _ then _ else _) = _; rw [if_pos h]
theorem stepQ_bad {page len : Nat} (h : len = page) (h2 : (d.length : Int) ≠ min left ((page : Int) - 16) ∨ decide (next = 0) ≠ decide (left ≤ (page : Int) - 16)) : stepQ page left len (some (next, d)) = 90 := by
  show (if _ then _ else if _ then _ else _) = _
  rw [if_neg (by simp [h]), if_pos h2]
theorem stepQ_ok {page len : Nat} (h : len = page) (h2 : (d.length : Int) = min left ((page : Int) - 16)) (h3 : decide (next = 0) = decide (left ≤ (page : Int) - 16)) : stepQ page left len (some (next, d)) = 0 := by
  show (if _ then _ else if _ then _ else _) = _
  rw [if_neg (by simp [h]), if_neg (fun e => e.elim (fun e => e h2) (fun e => e h3))]
theorem dec_rng {b : List UInt8} (h : decS b = some (next, d)) : (next = 0 ∨ (2 ≤ next ∧ next < 65536)) ∧ 1 ≤ d.length ∧ d.length + 16 ≤ b.length ∧ laidS next d b.length = b ∧ spZ next d (b.length : Int) = 0 := by
  unfold decS at h
  split at h
  · rename_i hc
    obtain ⟨rfl, rfl⟩ := Prod.mk.inj (Option.some.inj h)
    obtain ⟨h1, h2, h3, h4⟩ := hc
    have := spZ_zero h3
    exact ⟨this.2.1, this.2.2.1, by have := this.2.2.2.1; omega, h4, h3⟩
  · cases h
theorem step_zero (h : stepZ S a left pages = 0) : ∃ b next d, a ∉ pages ∧ S.held a = some b ∧ decS b = some (next, d) ∧ b.length = S.page ∧ (d.length : Int) = min left ((S.page : Int) - 16) ∧ (next = 0 ↔ left ≤ (S.page : Int) - 16) ∧ stepN S a = next ∧ stepD S a = d := by
  by_cases hin : a ∈ pages
  · rw [(step_in (left := left) hin).1] at h; cases h
  · cases hh : S.held a with
    | none => rw [(step_none (left := left) hin hh).1] at h; cases h
    | some b =>
      obtain ⟨k1, -, k3, k4⟩ := step_some (left := left) hin hh
      rw [k1] at h
      cases hd : decS b with
      | none => rw [hd] at h; cases h
      | some nd =>
        obtain ⟨nx, d⟩ := nd
        rw [hd] at h
        by_cases h1 : b.length = S.page
        · by_cases h2 : (d.length : Int) = min left ((S.page : Int) - 16)
          · by_cases h3 : decide (nx = 0) = decide (left ≤ (S.page : Int) - 16)
            · refine ⟨b, nx, d, hin, rfl, hd, h1, h2, decide_eq_decide.1 h3, by rw [k3, (dec_some hd).1], by rw [k4, (dec_some hd).2.1]⟩
            · rw [stepQ_bad h1 (.inr h3)] at h; cases h
          · rw [stepQ_bad h1 (.inl h2)] at h; cases h
        · rw [stepQ_len h1] at h; cases h
theorem chF_facts {most : Int} (hm : 0 ≤ most) : ∀ (f : Nat) (S : BS) (a left : Int) (pages : List Int) (out : List UInt8), most.toNat + 1 ≤ f + out.length → i64w a → (∀ p ∈ pages, i64w p) →
    ((chF most f S a left pages out).1 = 0 → most ≤ ((chF most f S a left pages out).2.2.1.length : Int)) ∧ ((chF most f S a left pages out).1 ≠ 0 → (chF most f S a left pages out).2.1 = [] ∧ (chF most f S a left pages out).2.2.1 = []) ∧ (∀ p ∈ (chF most f S a left pages out).2.1, i64w p)
  | 0, S, a, left, pages, out, h, _, hp => ⟨fun _ => by show most ≤ (out.length : Int); omega, fun h => absurd rfl h, hp⟩
  | f + 1, S, a, left, pages, out, h, ha, hp => by
    by_cases h1 : most ≤ (out.length : Int)
    · rw [chF_done h1]
      exact ⟨fun _ => h1, fun h => absurd rfl h, hp⟩
    · by_cases h2 : stepZ S a left pages = 0
      · obtain ⟨b, nx, d, -, -, hd, -, -, -, k3, k4⟩ := step_zero h2
        obtain ⟨r1, r2, -⟩ := dec_rng hd
        rw [chF_next h1 (by omega) h2 k3 k4]
        refine chF_facts hm (f + 1 - 1) _ _ _ _ _ (by rw [List.length_append]; omega) (by unfold i64w; omega) (fun p hpp => ?_)
        rcases List.mem_append.1 hpp with hpp | hpp
        · exact hp p hpp
        · obtain rfl := List.mem_singleton.1 hpp; exact ha
      · rw [chF_bad h1 (by omega) rfl h2 rfl]
        exact ⟨fun e => absurd e h2, fun _ => ⟨rfl, rfl⟩, fun p hp => by cases hp⟩
end
end Go.Proofs.Ytgnhakgfgdelpaa
