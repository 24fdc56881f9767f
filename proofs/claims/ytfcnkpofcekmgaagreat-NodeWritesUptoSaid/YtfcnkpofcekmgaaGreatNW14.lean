/- Texts joined: espalierref07.taken, Shared, Size; espalierref07.Encode; packed pages; ink.ReadUint, espalierref01.ReadUint -/
import Derived.Test.YtfcnkpofcekmgaaGreatNW3
import Derived.Test.YtfcnkpofcekmgaaGreatNW8
import Derived.Test.YtfcnkpofcekmgaaGreatNW9
import Derived.Test.YtfcnkpofcekmgaaGreatNW11
import Derived.Test.YtfcnkpofcekmgaaGreatNW12
import Derived.Test.YtfcnkpofcekmgaaGreatNW13
import Derived.Deep.RegionHeld3
-- espalierref07.taken, Shared, Size: walks.
namespace Go.Proofs.YtfcnkpofcekmgaaGreat
open Go.RowKit
set_option maxRecDepth 100000 in
set_option maxHeartbeats 4000000 in
theorem RKtaken_any (kind : Int) (v : Value) (l : List CV) (pre : Nat) (w : World) (hl : RdCs w v l) (hf : bigK (pcs l) ≤ 2305843009213693952) (hcb : ∀ x ∈ l, x.c.key.length + x.c.val.length ≤ 100000000000000) (hpr : pre ≤ 100000000000000) (hp : ∀ (i : Nat) (hi : i < (pcs l).length), ¬ (kind = 3 ∧ i = 0) → pre ≤ (pcs l)[i].key.length) :
    Calls Tryz.prog 155 #[.int .i64 kind, v, .int .i64 (pre : Int)] w fun e w' => e = .returned (.int .i64 (takenF kind (pcs l) pre : Nat)) ∧ Below w.heap.size w w' := by
  obtain ⟨A, c, rfl, hm, hc⟩ := hl.slice
  have HP := Lib.hid hp
  have HF := Lib.hid hf
  have HCB := Lib.hid hcb
  clear hp hcb
  go_enter Tryz.func155, Tryz.ntmps155
  go_wp2_with fail
  go_loopw [7, 8, 9] (fun n i _ wr => ∃ k : Nat, k ≤ l.length ∧ i = .int .i64 (k : Int) ∧ n = .int .i64 (takenF kind ((pcs l).take k) pre : Nat) ∧ Below w.heap.size w wr) (fun _ i _ _ => l.length - (intOf i).toNat)
  case atStart => exact ⟨0, Nat.zero_le _, rfl, by simp [takenF, pbodyF], Below.refl _ _⟩
  case round =>
    obtain ⟨k, hk, rfl, rfl, hB⟩ := hrel
    by_cases hlt : k < l.length
    · have ik : (k : Int) < (l.length : Int) := by omega
      have hS := taken_take kind pre (pcs l) (k := k) (by rw [pcs_length]; exact hlt)
      have hS1 := taken_big kind pre (pcs l) (k + 1) (by have := HF.out; omega)
      rw [pcs_at hlt] at hS
      have hmem : l[k].c ∈ pcs l := by rw [← pcs_at hlt]; exact List.getElem_mem _
      have hkv : l[k].c.key.length + l[k].c.val.length ≤ 100000000000000 := HCB.out _ (List.getElem_mem hlt)
      have hpk : ¬ (kind = 3 ∧ k = 0) → pre ≤ l[k].c.key.length := fun h => by rw [← pcs_at hlt]; exact HP.out k (by rw [pcs_length]; exact hlt) h
      obtain ⟨ad, rfl, c0, c1, c2, c3, c4⟩ := (hl.below hB).at_ hlt
      have hx := (hl.below hB).ok _ (List.getElem_mem hlt)
      generalize l[k] = x at *
      obtain ⟨A1, a1, B1, b1, key, ck, val, pg, ct, rfl, _, _⟩ := CV.form hx
      have hlo := RKbytes_any kind k ⟨.slice A1 key.length a1, .slice B1 val.length b1, ⟨key, ck, val, pg, ct⟩⟩ pre wr hx hpk hkv
      unfold cellV at hlo
      have hS' : takenF kind ((pcs l).take (k + 1)) pre = takenF kind ((pcs l).take k) pre + (2 + (pcF kind k ⟨key, ck, val, pg, ct⟩ pre).length) := hS
      have HS := Lib.hid hS'
      have hS2 : takenF kind ((pcs l).take k) pre + (2 + (pcF kind k ⟨key, ck, val, pg, ct⟩ pre).length) ≤ 9223372036854775000 := by have := HF.out; omega
      simp only at hlo
      generalize takenF kind ((pcs l).take k) pre = s at *
      generalize pcF kind k ⟨key, ck, val, pg, ct⟩ pre = lo at *
      clear hS hS' hS1 hmem hx hkv hpk
      go_upto_region 6 with (first | (go_at_call 125; refine hlo.mono ?_; rintro e w2 ⟨v2, rfl, ho2, hb2⟩) | fail)
      have hB2 := hB.trans (hb2.mono hB.size)
      obtain ⟨A2, a2, rfl⟩ := Own.slice ho2
      clear ho2 hlo
      go_wp2_with fail
      go_roundw
      case rel => exact ⟨k + 1, by omega, by go_num, by rw [HS.out]; go_num, hB2⟩
      case measure => simp [intOf]; omega
    · obtain rfl : k = l.length := by omega
      have e : (pcs l).take l.length = pcs l := List.take_of_length_le (by rw [pcs_length]; omega)
      rw [e]
      go_wp2_with fail
      go_ret
      exact ⟨rfl, hB⟩
/-! ### what cells share -/
theorem keysF_take0 (kind : Int) (l : List PC) : keysF kind (l.take 0) = [] := by unfold keysF; simp
theorem keysF_skip (l : List PC) : keysF 3 (l.take 1) = [] := by
  unfold keysF
  rw [if_pos rfl]
  cases l <;> simp
theorem keysF_step {kind : Int} {l : List PC} {k : Nat} (hk : k < l.length) (hn : ¬ (kind = 3 ∧ k = 0)) : keysF kind (l.take (k + 1)) = keysF kind (l.take k) ++ [l[k].key] := by
  unfold keysF
  rw [List.take_succ_eq_append_getElem hk]
  by_cases h3 : kind = 3
  · rw [if_pos h3, if_pos h3, List.drop_append_of_le_length (by rw [List.length_take]; omega), List.map_append]; rfl
  · rw [if_neg h3, if_neg h3, List.map_append]; rfl
theorem keysF_has {kind : Int} {l : List PC} {i : Nat} (hi : i < l.length) (hn : ¬ (kind = 3 ∧ i = 0)) : l[i].key ∈ keysF kind l := by
  unfold keysF
  refine List.mem_map_of_mem ?_
  by_cases hk : kind = 3
  · rw [if_pos hk]
    have : l[i] = (l.drop 1)[i - 1]'(by simp; omega) := by simp only [List.getElem_drop]; congr 1; omega
    rw [this]; exact List.getElem_mem _
  · rw [if_neg hk]; exact List.getElem_mem _
theorem keysF_length_le (kind : Int) (l : List PC) : (keysF kind l).length ≤ l.length := by
  unfold keysF
  split <;> simp
theorem prefF_first {kind : Int} {l : List PC} (h : 0 < sharedF kind l) : ∃ hk : 0 < (keysF kind l).length, sharedF kind l ≤ (keysF kind l)[0].length ∧ prefF kind l = (keysF kind l)[0].take (sharedF kind l) := by
  obtain ⟨i, hi, hn⟩ := sharedF_pos h
  have hm := keysF_has hi hn
  have hk : 0 < (keysF kind l).length := List.length_pos_of_mem hm
  refine ⟨hk, ?_⟩
  have h1 := comLs_take (List.getElem_mem hk) hm
  obtain ⟨h2, h3, h4⟩ := key_split hi hn
  refine ⟨h1.1, ?_⟩
  have e : prefF kind l = l[i].key.take (sharedF kind l) := by
    conv => rhs; rw [h3]
    rw [List.take_left' h4]
  rw [e]
  exact h1.2.symm
theorem prefF_none {kind : Int} {l : List PC} (h : sharedF kind l = 0) : prefF kind l = [] := List.eq_nil_of_length_eq_zero (by rw [prefF_length]; exact h)
def KeysIn (w : World) (vs : List Value) (ks : List (List UInt8)) : Prop := vs.length = ks.length ∧ ∀ j (h : j < ks.length), ∃ u, vs[j]? = some u ∧ RdB w u ks[j]
theorem KeysIn.snoc {w : World} {vs : List Value} {ks : List (List UInt8)} {u : Value} {k : List UInt8} (h : KeysIn w vs ks) (hu : RdB w u k) : KeysIn w (vs ++ [u]) (ks ++ [k]) := by
  refine ⟨by simp [h.1], fun j hj => ?_⟩
  rcases Nat.lt_or_ge j ks.length with h1 | h1
  · obtain ⟨x, hx, hr⟩ := h.2 j h1
    exact ⟨x, by rw [List.getElem?_append_left (by rw [h.1]; exact h1)]; exact hx, by rw [List.getElem_append_left h1]; exact hr⟩
  · have hj' : j = ks.length := by simp at hj; omega
    subst hj'
    exact ⟨u, by rw [List.getElem?_append_right (by rw [h.1]; exact Nat.le_refl _), h.1]; simp, by simpa using hu⟩
theorem KeysIn.rdL {w w' : World} {L : List Ent} {v : Value} {vs : List Value} {ks : List (List UInt8)} {w0 : World} (h : KeysIn w vs ks) (hS : Sep w0 w' (ownE 41 1 v vs.length vs :: L)) (hm : oldE w ∈ L) : RdL w' v ks :=
  ⟨vs, Own.rd hS.head, h.1, fun i hi => by
    obtain ⟨u, hu, hr⟩ := h.2 i hi
    exact ⟨u, hu, hS.tail.rd hm hr⟩⟩
theorem Sep.appendedL {w0 w w' : World} {v v' : Value} {vs : List Value} {u : Value} {L : List Ent} (h : Sep w0 w (ownE 41 1 v vs.length vs :: L)) (ho : Own w' 0 41 1 v' (vs.length + 1) (vs ++ [u])) (hg : w.grownBy w' v.ownBlock) (hk : v'.ownBlock = v.ownBlock ∨ v'.ownBlock = some (w.heap.size + 1)) :
    Sep w0 w' (ownE 41 1 v' (vs ++ [u]).length (vs ++ [u]) :: L) :=
  h.upd (Turn.of_grown hg (fun _ e => e)) (by show Own _ _ _ _ _ _ _; rw [List.length_append]; exact ho) (fun g hg' => ⟨by
    rcases hk with e | e
    · exact .inl (e.symm.trans hg' : v.ownBlock = some g)
    · right
      have := e.symm.trans hg'
      injection this with this
      omega, (Own.lt ho g hg').2⟩)
set_option maxRecDepth 100000 in
set_option maxHeartbeats 4000000 in
theorem RKShared_any (kind : Int) (v : Value) (l : List CV) (w : World) (hl : RdCs w v l) (hn : l.length ≤ 2000000000000) (hb : ∀ x ∈ l, x.c.key.length ≤ 100000000000000) :
    Calls Tryz.prog 123 #[.int .i64 kind, v] w (KBytesAt w (prefF kind (pcs l))) := by
  obtain ⟨A, c, rfl, hm, hc⟩ := hl.slice
  have HB := Lib.hid hb
  clear hb
  go_enter Tryz.func123, Tryz.ntmps123
  go_wp2_with fail
  go_loopw [5, 6] (fun kv i wr => ∃ (k : Nat) (vs : List Value), k ≤ l.length ∧ i = .int .i64 (k : Int) ∧ KeysIn w vs (keysF kind ((pcs l).take k)) ∧ Sep w wr [ownE 41 1 kv vs.length vs, oldE w]) (fun _ i _ => l.length - (intOf i).toNat)
  case atStart =>
    refine ⟨0, [], Nat.zero_le _, rfl, ?_, ?_⟩
    · rw [keysF_take0]; exact ⟨rfl, fun j h => absurd h (by simp)⟩
    · exact (Sep.start w).cons (Own.nil w 0 _ _) (fun g hg => by cases hg) (fun _ _ g hg => by cases hg)
  case round =>
    obtain ⟨k, vs, hk, rfl, hKI, hS⟩ := hrel
    by_cases hlt : k < l.length
    · have ik : (k : Int) < (l.length : Int) := by omega
      by_cases h30 : kind = 3 ∧ k = 0
      · obtain ⟨rfl, rfl⟩ := h30
        have hK1 : KeysIn w vs (keysF 3 ((pcs l).take 1)) := by rw [keysF_skip]; rw [keysF_take0] at hKI; exact hKI
        clear hKI
        go_wp2_with fail
        go_roundw
        case rel => exact ⟨1, vs, by omega, rfl, hK1, hS⟩
        case measure => simp [intOf]; omega
      · have hstep := keysF_step (l := pcs l) (kind := kind) (k := k) (by rw [pcs_length]; exact hlt) h30
        rw [pcs_at hlt] at hstep
        obtain ⟨ad, B, b, rfl, q0, hkr⟩ := hl.key_at hlt
        have hK1 := hKI.snoc hkr
        rw [← hstep] at hK1
        have hvl : (vs.length + 1) * 24 ≤ 140737488355328 := by
          have h1 := hKI.1
          have h2 := keysF_length_le kind ((pcs l).take k)
          have h3 : ((pcs l).take k).length ≤ k := by rw [List.length_take]; omega
          omega
        have q1 := (hS.old_cell (v := w) (by simp) _ (World.block_lt_of_cell? w _ q0)).trans q0
        have hown : Own wr 0 41 1 _ vs.length vs := hS.head
        generalize l[k].c.key = key at *
        have HK := Lib.hid hK1
        clear hstep hKI hK1 q0 hkr
        have fin : ∀ (v' : Value) (w' : World), Sep w w' [ownE 41 1 v' (vs ++ [Value.slice B key.length b]).length (vs ++ [Value.slice B key.length b]), oldE w] → ∃ (k' : Nat) (vs' : List Value), k' ≤ l.length ∧ Value.int .i64 ((k : Int) + 1) = .int .i64 (k' : Int) ∧ KeysIn w vs' (keysF kind ((pcs l).take k')) ∧ Sep w w' [ownE 41 1 v' vs'.length vs', oldE w] :=
          fun v' w' h => ⟨k + 1, _, by omega, by go_num, HK.out, h⟩
        have FIN := Lib.hid fin
        clear fin HK
        by_cases h3 : kind = 3
        · have e3 : (kind != 3) = false := by simp [h3]
          have ik0 : (0 : Int) < (k : Int) := by omega
          clear h3 h30
          go_wp2_with (first
            | (at_builtin; refine wp_append_L rfl (.tmp 20) (.tmp 26) rfl 0 _ vs rfl hown _ rfl 41 rfl hvl (Nat.zero_le _) ?_; intro v3 w3 ho3 hg3 hk3; have hS3 := hS.appendedL ho3 hg3 hk3)
            | fail)
          go_roundw
          case rel => exact FIN.out _ _ hS3
          case measure => simp [intOf]; omega
        · have e3 : (kind != 3) = true := by simp [h3]
          clear h3 h30
          go_wp2_with (first
            | (at_builtin; refine wp_append_L rfl (.tmp 20) (.tmp 26) rfl 0 _ vs rfl hown _ rfl 41 rfl hvl (Nat.zero_le _) ?_; intro v3 w3 ho3 hg3 hk3; have hS3 := hS.appendedL ho3 hg3 hk3)
            | fail)
          go_roundw
          case rel => exact FIN.out _ _ hS3
          case measure => simp [intOf]; omega
    · obtain rfl : k = l.length := by omega
      have e : (pcs l).take l.length = pcs l := List.take_of_length_le (by rw [pcs_length]; omega)
      rw [e] at hKI
      have hrl := hKI.rdL hS (by simp)
      have hcom := RCommon_any _ _ _ hrl
      have hcm : comLs (keysF kind (pcs l)) = sharedF kind (pcs l) := rfl
      rw [hcm] at hcom
      have hS0 : Sep w _ [oldE w] := hS.tail
      obtain ⟨KA, kc, rfl, hkm⟩ := hrl.form
      rcases Nat.eq_zero_or_pos (sharedF kind (pcs l)) with h0 | h0
      · have hp := prefF_none h0
        have HP := Lib.hid hp
        rw [h0] at hcom
        clear h0 hp hcm hrl hKI hS
        go_wp2_with (first | (go_at_call 161; refine hcom.mono ?_; rintro e w1 ⟨rfl, hb1⟩) | fail)
        go_ret
        rw [HP.out]
        exact ⟨_, rfl, OwB.nil _ _, (hS0.below hb1).belowOld (_v := w) (by simp)⟩
      · obtain ⟨hk0, hle, hpf⟩ := prefF_first h0
        obtain ⟨ad, B, b, rfl, q0, hr0⟩ := hrl.at_ hk0
        have hbl : (keysF kind (pcs l))[0].length ≤ 100000000000000 := by
          have hm := List.getElem_mem hk0
          generalize (keysF kind (pcs l))[0] = t at hm
          unfold keysF at hm
          obtain ⟨x, hx, rfl⟩ := List.mem_map.1 hm
          have hx2 : x ∈ pcs l := by
            split at hx
            · exact List.mem_of_mem_drop hx
            · exact hx
          unfold pcs at hx2
          obtain ⟨y, hy, rfl⟩ := List.mem_map.1 hx2
          exact HB.out y hy
        have HPF := Lib.hid hpf
        obtain ⟨s, hs⟩ : ∃ s, sharedF kind (pcs l) = s := ⟨_, rfl⟩
        rw [hs] at hcom h0 hle hpf
        have HS := Lib.hid hs
        have i0 : ((s : Int) == 0) = false := beq_eq_false_iff_ne.2 (by omega)
        have i1 : (0 : Int) < ((keysF kind (pcs l)).length : Int) := by omega
        obtain ⟨NK, hNK⟩ : ∃ n, (keysF kind (pcs l)).length = n := ⟨_, rfl⟩
        rw [hNK] at i1 hcom hkm ⊢
        have HPF : Hid (prefF kind (pcs l) = (keysF kind (pcs l))[0].take s) := Lib.hid hpf
        generalize (keysF kind (pcs l))[0] = key at *
        clear hpf hs hcm hrl hKI HS hNK hk0
        have q0 : ∀ w', Below _ _ w' → w'.cell? ad = some (.slice B key.length b) := fun w' hb' => (hb'.cell (World.block_lt_of_cell? _ _ q0)).trans (by simpa [Addr.add] using q0)
        go_upto_region 10 with (first | (go_at_call 161; refine hcom.mono ?_; rintro e w1 ⟨rfl, hb1⟩) | fail)
        have q1 := q0 w1 hb1
        have hr1 := hr0.below hb1 (Nat.le_refl _)
        obtain ⟨B2, b2, hrun, hrd⟩ := hr1.run_h s hle
        have hB1 := (hS0.below hb1).belowOld (_v := w) (by simp)
        have hN1 := (Sep.start w1).nil
        have htl : (key.take s).length ≤ 100000000000000 := by rw [List.length_take]; omega
        clear hr0 hr1 q0 hcom
        go_wp2_with (first | (go_at_call 124; refine (RKadd_sep hN1 (RdIn.old hrd (by simp)) (by simp only [List.length_nil]; omega)).mono ?_; rintro e w2 ⟨v2, rfl, hS2⟩) | fail)
        go_ret
        rw [HPF.out]
        exact ⟨v2, rfl, OwB.low (hS2.ownOld (by simp)) hB1.size, hB1.trans ((hS2.belowOld (_v := w1) (by simp)).mono hB1.size)⟩
set_option maxRecDepth 100000 in
set_option maxHeartbeats 4000000 in
theorem RKSize_any (kind : Int) (v : Value) (l : List CV) (w : World) (hl : RdCs w v l) (hn : l.length ≤ 2000000000000) (hf : bigK (pcs l) ≤ 2305843009213693952) (hcb : ∀ x ∈ l, x.c.key.length + x.c.val.length ≤ 100000000000000) :
    Calls Tryz.prog 122 #[.int .i64 kind, v] w fun e w' => e = .returned (.int .i64 (psizeF kind (pcs l) : Nat)) ∧ Below w.heap.size w w' := by
  have hk : ∀ x ∈ l, x.c.key.length ≤ 100000000000000 := fun x hx => by have := hcb x hx; omega
  have hSh := RKShared_any kind v l w hl hn hk
  have hpk : ∀ (i : Nat) (hi : i < (pcs l).length), ¬ (kind = 3 ∧ i = 0) → sharedF kind (pcs l) ≤ (pcs l)[i].key.length := fun i hi hn => (key_split (kind := kind) hi hn).1
  have hsb : sharedF kind (pcs l) ≤ 100000000000000 := by
    rcases Nat.eq_zero_or_pos (sharedF kind (pcs l)) with e | e
    · omega
    · obtain ⟨i, hi, hn⟩ := sharedF_pos e
      have h2 := hpk i hi hn
      have h3 : ∀ x ∈ pcs l, x.key.length ≤ 100000000000000 := fun x hx => by
        unfold pcs at hx
        obtain ⟨y, hy, rfl⟩ := List.mem_map.1 hx
        exact hk y hy
      have h4 := h3 _ (List.getElem_mem hi)
      omega
  have hTk := fun W hW => RKtaken_any kind v l (sharedF kind (pcs l)) W hW hf hcb hsb hpk
  have hps : takenF kind (pcs l) (sharedF kind (pcs l)) = psizeF kind (pcs l) := rfl
  rw [hps] at hTk
  have hpl := prefF_length kind (pcs l)
  have HTK := Lib.hid hTk
  have HPL := Lib.hid hpl
  clear hps hpk hsb hTk hk hpl hcb
  go_enter Tryz.func122, Tryz.ntmps122
  go_upto_region 2 with (first | (go_at_call 123; refine hSh.mono ?_; rintro e w1 ⟨v1, rfl, ho1, hb1⟩) | fail)
  have hl1 := HTK.out w1 (hl.below hb1)
  obtain ⟨A1, a1, rfl⟩ := Own.slice ho1
  rw [HPL.out]
  clear hSh ho1 HTK HPL
  go_wp2_with (first | (go_at_call 155; refine hl1.mono ?_; rintro e w2 ⟨rfl, hb2⟩) | fail)
  go_ret
  exact ⟨rfl, hb1.trans (hb2.mono hb1.size)⟩
end Go.Proofs.YtfcnkpofcekmgaaGreat

-- espalierref07.Encode: the walk.
namespace Go.Proofs.YtfcnkpofcekmgaaGreat
open Go.RowKit
def REncKAt (w : World) (kind : Int) (l : List PC) (P : Int) (e : Ending) (w' : World) : Prop :=
  Below w.heap.size w w' ∧ ((isKindB kind && isPowB P) = false ∧ e = .returned (.tuple #[.slice none 0 0, .int .i64 1]) ∨
    (isKindB kind && isPowB P) = true ∧ ((encK kind l P.toNat ≠ 0 ∧ e = .returned (.tuple #[.slice none 0 0, .int .i64 (encK kind l P.toNat)])) ∨
      (encK kind l P.toNat = 0 ∧ ∃ v, e = .returned (.tuple #[v, .int .i64 0]) ∧ OwB w' w.heap.size v (laidK kind l P.toNat))))
def slnK : Value → Nat
  | .slice _ n _ => n
  | _ => 0
theorem KFixed_2 (n : Nat) (hn : n < 18446744073709551616) (w : World) : Calls Tryz.prog 117 #[.int .u64 n, .int .i64 2] w fun e w' => ∃ v, e = .returned v ∧ OwB w' w.heap.size v (fixedF n 2) ∧ Below w.heap.size w w' :=
  RFixed_any n hn 2 (by omega) (by omega) w
theorem KFixed_4 (n : Nat) (hn : n < 18446744073709551616) (w : World) : Calls Tryz.prog 117 #[.int .u64 n, .int .i64 4] w fun e w' => ∃ v, e = .returned v ∧ OwB w' w.heap.size v (fixedF n 4) ∧ Below w.heap.size w w' :=
  RFixed_any n hn 4 (by omega) (by omega) w
theorem pslots_step (kind : Int) (s a : Nat) (l : List PC) {k : Nat} (hk : k < l.length) : pslotsF kind s a 0 (l.take (k + 1)) = pslotsF kind s a 0 (l.take k) ++ fixedF (a + (pbodyF kind s 0 (l.take k)).length) 2 := by
  rw [List.take_succ_eq_append_getElem hk, pslotsF_append]
  simp only [pslotsF, List.append_nil]
theorem pbody_step (kind : Int) (s : Nat) (l : List PC) {k : Nat} (hk : k < l.length) : pbodyF kind s 0 (l.take (k + 1)) = pbodyF kind s 0 (l.take k) ++ pcF kind k l[k] s := by
  rw [List.take_succ_eq_append_getElem hk, pbodyF_append]
  simp only [pbodyF, List.append_nil, List.length_take, Nat.zero_add, Nat.min_eq_left (Nat.le_of_lt hk)]
theorem pbody_take_le (kind : Int) (s : Nat) (l : List PC) (k : Nat) : (pbodyF kind s 0 (l.take k)).length ≤ (pbodyF kind s 0 l).length := by
  conv => rhs; rw [← List.take_append_drop k l, pbodyF_append]
  simp
set_option maxRecDepth 100000 in
set_option maxHeartbeats 8000000 in
theorem RKEncode_any (kind : Int) (v : Value) (l : List CV) (P : Int) (w : World) (hl : RdCs w v l) (hn : l.length ≤ 2000000000000) :
    Calls Tryz.prog 64 #[.int .i64 kind, v, .int .i64 P] w (REncKAt w kind (pcs l) P) := by
  obtain ⟨A, c, rfl, hm, hc⟩ := hl.slice
  have hPa := RKIsSize_any P w
  have hcut0 : ∀ b2 b3 : Bool, (kind != 2) = b2 → (kind != 3) = b3 → isKindB kind = !(b2 && b3) := fun b2 b3 h2 h3 => by
    subst h2 h3
    unfold isKindB
    by_cases e2 : kind = 2
    · simp [e2]
    · by_cases e3 : kind = 3
      · simp [e3]
      · simp [e2, e3]
  have HC0 := Lib.hid hcut0
  obtain ⟨kp, hkp⟩ : ∃ b, isPowB P = b := ⟨_, rfl⟩
  obtain ⟨b2, hb2⟩ : ∃ b, (kind != 2) = b := ⟨_, rfl⟩
  obtain ⟨b3, hb3⟩ : ∃ b, (kind != 3) = b := ⟨_, rfl⟩
  have HKB : Hid (isKindB kind = !(b2 && b3)) := Lib.hid (hcut0 b2 b3 hb2 hb3)
  have HKP := Lib.hid hkp
  rw [hkp] at hPa
  clear hkp hcut0
  go_enter Tryz.func64, Tryz.ntmps64
  go_upto_region 2 with (first | (go_at_call 110; refine hPa.mono ?_; rintro e w1 ⟨rfl, rfl⟩) | fail)
  clear hPa
  go_cut [35] (fun a wx => a = .bool ((b2 && b3) || !kp) ∧ w = wx)
  case first =>
    cases b2 <;> cases b3 <;> cases kp <;>
    · go_wp2_with fail
      go_meet
      exact ⟨rfl, rfl⟩
  case rest =>
   obtain ⟨rfl, rfl⟩ := hcut
   clear hb2 hb3
   obtain ⟨bb, hbb⟩ : ∃ b, ((b2 && b3) || !kp) = b := ⟨_, rfl⟩
   rw [hbb]
   have HKK : Hid ((isKindB kind && isPowB P) = !bb) := Lib.hid (by rw [HKB.out, HKP.out, ← hbb]; cases b2 <;> cases b3 <;> cases kp <;> rfl)
   clear hbb HC0 HKB HKP
   cases bb with
   | true =>
    go_wp2_with fail
    go_ret2
    unfold REncKAt
    exact ⟨Below.refl _ _, .inl ⟨HKK.out, rfl⟩⟩
   | false =>
    have HK : Hid ((isKindB kind && isPowB P) = true) := HKK
    have hkk := HK.out
    simp only [Bool.and_eq_true] at hkk
    obtain ⟨hk0, hp0⟩ := hkk
    have HKD : Hid (kind = 2 ∨ kind = 3) := Lib.hid (of_decide_eq_true hk0)
    obtain ⟨hP1, hP2⟩ := isPowB_range hp0
    clear hk0 hp0 HKK
    obtain ⟨Q, rfl⟩ : ∃ Q : Nat, P = (Q : Int) := ⟨P.toNat, by omega⟩
    have hQ1 : 512 ≤ Q := by omega
    have hQ2 : Q ≤ 65536 := by omega
    go_wp2_with fail
    go_loopw [9, 10, 11] (fun i _ _ wr => ∃ k : Nat, k ≤ l.length ∧ i = .int .i64 (k : Int) ∧ Hid (scanE kind Q none (pcs l) = scanE kind Q (prevK (pcs l) k) ((pcs l).drop k)) ∧ Hid (∀ j (hj : j < k) (hjl : j < (pcs l).length), OkC Q (pcs l)[j]) ∧ Below w.heap.size w wr) (fun i _ _ _ => l.length - (intOf i).toNat)
    case atStart => exact ⟨0, Nat.zero_le _, rfl, Lib.hid rfl, Lib.hid (fun j hj => by omega), Below.refl _ _⟩
    case round =>
      obtain ⟨k, hk, rfl, HSC, HOK, hB⟩ := hrel
      by_cases hlt : k < l.length
      · have ik : (k : Int) < (l.length : Int) := by omega
        have hlp : k < (pcs l).length := by rw [pcs_length]; exact hlt
        have hst := scan_step (kind := kind) (P := Q) hlp
        have hpk := prevK_succ (pcs l) hlp
        rw [← HSC.out] at hst
        have hcx : ∀ c, (pcs l)[k] = c → Hid (mayP kind Q c = true → ∀ j (hj : j < k + 1) (hjl : j < (pcs l).length), OkC Q (pcs l)[j]) := fun c hc => Lib.hid (fun hmay j hj hjl => by
          by_cases e : j = k
          · subst e; rw [hc]; exact may_ok hmay
          · exact HOK.out j (by omega) hjl)
        rw [pcs_at hlt] at hst hpk
        have hcx := hcx _ (pcs_at hlt)
        obtain ⟨ad, rfl, c0, c1, c2, c3, c4⟩ := (hl.below hB).at_ hlt
        have hx := (hl.below hB).ok _ (List.getElem_mem hlt)
        have hprev : ∀ q, prevK (pcs l) k = some q → ∃ A0 a0, 0 < k ∧ RdB wr (.slice A0 q.length a0) q ∧ wr.cell? (ad.add ((k - 1) * 5)) = some (.slice A0 q.length a0) := fun q hq => by
          unfold prevK at hq
          split at hq
          · cases hq
          · have hk1 : k - 1 < l.length := by omega
            obtain ⟨_, ea, d0, _⟩ := (hl.below hB).at_ hk1
            cases ea
            have hxp := (hl.below hB).ok _ (List.getElem_mem hk1)
            have e1 : (pcs l).getD (k - 1) default = l[k - 1].c := by simp [List.getD, pcs, hk1]
            rw [e1] at hq
            injection hq with hq
            obtain ⟨A0, a0, he, _⟩ := hxp.k.form
            rw [he, hq] at d0
            have hk2 := hxp.k
            rw [he, hq] at hk2
            exact ⟨A0, a0, by omega, hk2, d0⟩
        generalize l[k] = x at *
        obtain ⟨A1, a1, B1, b1, key, ck, val, pg, ct, rfl, _, _⟩ := CV.form hx
        have hma := RKMay_any kind Q HKD.out hQ2 _ wr hx
        have hxk : RdB wr (.slice A1 key.length a1) key := hx.k
        have hst' : scanE kind Q none (pcs l) = if mayP kind Q ⟨key, ck, val, pg, ct⟩ = false then 62 else if afterP (prevK (pcs l) k) key = false then 63 else scanE kind Q (prevK (pcs l) (k + 1)) ((pcs l).drop (k + 1)) := hst
        have HCX := Lib.hid hcx.out
        unfold cellV at hma
        rcases Bool.eq_false_or_eq_true (mayP kind Q ⟨key, ck, val, pg, ct⟩) with hmy | hmy
        · rw [if_neg (by rw [hmy]; simp)] at hst'
          have HCN := Lib.hid (HCX.out hmy)
          have hma' : Calls Tryz.prog 120 #[.int .i64 kind, .agg #[.slice A1 key.length a1, .int .i64 ck, .slice B1 val.length b1, .int .i64 pg, .int .i64 ct], .int .i64 (Q : Int)] wr fun e w' => e = .returned (.bool true) ∧ Below wr.heap.size wr w' := by
            rw [← hmy]; exact hma
          clear hma hmy hst hx hcx
          have HST0 := Lib.hid hst'
          have HPV := Lib.hid hprev
          have HPK0 := Lib.hid hpk
          clear hst' hprev hpk
          go_upto_region 10 with (first | (go_at_call 120; refine hma'.mono ?_; rintro e w2 ⟨rfl, hb2⟩) | fail)
          have hB2 := hB.trans (hb2.mono hB.size)
          have hst' := HST0.out
          have hprev := HPV.out
          have hpk := HPK0.out
          clear HST0 HPV HPK0
          by_cases hk0 : 0 < k
          · obtain ⟨kk, rfl⟩ : ∃ kk, k = kk + 1 := ⟨k - 1, by omega⟩
            obtain ⟨q, hq⟩ : ∃ q, prevK (pcs l) (kk + 1) = some q := ⟨_, prevK_succ (pcs l) (by rw [pcs_length]; omega)⟩
            obtain ⟨A0, a0, _, hqr, hqc⟩ := hprev q hq
            rw [hq] at hst'
            rw [show kk + 1 - 1 = kk by omega] at hqc
            have j1 : (0 : Int) ≤ (kk : Int) := by omega
            have j2 : (kk : Int) < (l.length : Int) := by omega
            have j3 : kk < l.length := by omega
            have j4 : IntKind.i64.wrap (kk : Int) = (kk : Int) := by rw [IntKind.wrap_i64]; omega
            have j5 : (0 : Int) < (kk : Int) + 1 := by omega
            have j6 : (0 : Int) ≤ (kk : Int) + 1 := by omega
            have j7 : (kk : Int) + 1 < (l.length : Int) := by omega
            have j8 : ((kk : Int) + 1).toNat = kk + 1 := by omega
            have j9 : IntKind.i64.wrap ((kk : Int) + 1) = (kk : Int) + 1 := by rw [IntKind.wrap_i64]; omega
            have j10 : kk + 1 < l.length := by omega
            have hst2 : scanE kind Q none (pcs l) = if decide (ordC q key < 0) = false then 63 else scanE kind Q (prevK (pcs l) (kk + 1 + 1)) ((pcs l).drop (kk + 1 + 1)) := hst'
            have HST := Lib.hid hst2
            clear hst' hst2 hq hprev hpk
            have e1 : w2.cell? (ad.add (kk * 5)) = some (.slice A0 q.length a0) := (hb2.cell (World.block_lt_of_cell? wr _ hqc)).trans hqc
            have e2 : w2.cell? (ad.add ((kk + 1) * 5)) = some (.slice A1 key.length a1) := (hb2.cell (World.block_lt_of_cell? wr _ c0)).trans c0
            have hq2 := hqr.below hb2 (Nat.le_refl _)
            have hx2 := hxk.below hb2 (Nat.le_refl _)
            have hah := RKahead_any _ _ q key w2.drew hq2.drew hx2.drew
            have HAH := Lib.hid hah
            have HC : Hid (∀ w', Below w2.heap.size w2 w' → w'.cell? (ad.add (kk * 5)) = some (.slice A0 q.length a0) ∧ w'.cell? (ad.add ((kk + 1) * 5)) = some (.slice A1 key.length a1)) := Lib.hid fun w' hb' =>
              ⟨(hb'.cell (World.block_lt_of_cell? w2 _ e1)).trans e1, (hb'.cell (World.block_lt_of_cell? w2 _ e2)).trans e2⟩
            clear hma' hqc c0 c1 c2 c3 c4 hqr hxk hb2 hah
            generalize hod : decide (ordC q key < 0) = od at *
            clear hod
            cases od with
            | true =>
              have hsn : scanE kind Q none (pcs l) = scanE kind Q (prevK (pcs l) (kk + 1 + 1)) ((pcs l).drop (kk + 1 + 1)) := by rw [HST.out, if_neg (by simp)]
              have HSN := Lib.hid hsn
              clear hsn
              go_upto_region 11 with (fail)
              go_region_held3 (fun w' => w'.cell? (ad.add (kk * 5)) = some (.slice A0 q.length a0) ∧ w'.cell? (ad.add ((kk + 1) * 5)) = some (.slice A1 key.length a1))
                (first | exact ⟨e1, e2⟩ | exact HC.out _ hb7 | go_keep)
                (first
                  | (go_at_call 121; refine HAH.out.mono ?_; rintro e w7 ⟨rfl, hw7⟩; have hb7 : Below w2.heap.size w2 w7 := (Below.refl _ _).drew.trans hw7)
                  | fail)
              go_wp2_with fail
              exact ⟨⟨kk + 1 + 1, by omega, by go_num, HSN, HCN, hB2.trans (hb7.mono hB2.size)⟩, by simp [intOf]; omega⟩
            | false =>
              have henc : encK kind (pcs l) Q = 63 := by
                have := HST.out
                rw [if_pos (by simp)] at this
                unfold encK; rw [if_pos (by rw [this]; simp), this]
              have HE := Lib.hid henc
              clear henc
              go_upto_region 11 with (fail)
              go_region_held3 (fun w' => w'.cell? (ad.add (kk * 5)) = some (.slice A0 q.length a0) ∧ w'.cell? (ad.add ((kk + 1) * 5)) = some (.slice A1 key.length a1))
                (first | exact ⟨e1, e2⟩ | exact HC.out _ hb7 | go_keep)
                (first
                  | (go_at_call 121; refine HAH.out.mono ?_; rintro e w7 ⟨rfl, hw7⟩; have hb7 : Below w2.heap.size w2 w7 := (Below.refl _ _).drew.trans hw7)
                  | fail)
              go_wp2_with fail
              go_ret2
              unfold REncKAt
              rw [show ((Q : Int)).toNat = Q from rfl, HE.out]
              exact ⟨hB2.trans (hb7.mono hB2.size), .inr ⟨HK.out, .inl ⟨by omega, rfl⟩⟩⟩
          · obtain rfl : k = 0 := by omega
            have e0 : afterP (prevK (pcs l) 0) key = true := rfl
            rw [e0, if_neg (by simp)] at hst'
            have HST := Lib.hid hst'
            clear hst' e0
            go_wp2_with fail
            exact ⟨⟨1, by omega, rfl, HST, HCN, hB2⟩, by simp [intOf]; omega⟩
        · have henc : encK kind (pcs l) Q = 62 := by
            rw [if_pos hmy] at hst'
            unfold encK; rw [if_pos (by rw [hst']; simp), hst']
          have HE := Lib.hid henc
          have hma' : Calls Tryz.prog 120 #[.int .i64 kind, .agg #[.slice A1 key.length a1, .int .i64 ck, .slice B1 val.length b1, .int .i64 pg, .int .i64 ct], .int .i64 (Q : Int)] wr fun e w' => e = .returned (.bool false) ∧ Below wr.heap.size wr w' := by
            rw [← hmy]; exact hma
          clear hma hst' hst hmy henc hx hcx
          go_wp2_with (first | (go_at_call 120; refine hma'.mono ?_; rintro e w2 ⟨rfl, hb2⟩) | fail)
          go_ret2
          unfold REncKAt
          rw [show ((Q : Int)).toNat = Q from rfl, HE.out]
          exact ⟨hB.trans (hb2.mono hB.size), .inr ⟨HK.out, .inl ⟨by omega, rfl⟩⟩⟩
      · obtain rfl : k = l.length := by omega
        have hall : ∀ c ∈ pcs l, OkC Q c := fun c hc => by
          obtain ⟨j, hj, rfl⟩ := List.getElem_of_mem hc
          exact HOK.out j (by rw [pcs_length] at hj; exact hj) hj
        have hsc : scanE kind Q none (pcs l) = 0 := by
          rw [HSC.out, List.drop_of_length_le (by rw [pcs_length]; omega)]; rfl
        have hbg := bigK_okc hQ2 hall
        rw [pcs_length] at hbg
        have hcb : ∀ x ∈ l, x.c.key.length + x.c.val.length ≤ 100000000000000 := fun x hx => by
          have h := okc_fit (hall x.c (by unfold pcs; exact List.mem_map_of_mem hx)) hQ2
          omega
        have hkb : ∀ x ∈ l, x.c.key.length ≤ 100000000000000 := fun x hx => by have := hcb x hx; omega
        have hpk : ∀ (i : Nat) (hi : i < (pcs l).length), ¬ (kind = 3 ∧ i = 0) → sharedF kind (pcs l) ≤ (pcs l)[i].key.length := fun i hi hn => (key_split (kind := kind) hi hn).1
        obtain ⟨w1, rfl⟩ : ∃ w1, w1 = wr := ⟨_, rfl⟩
        have hsz := RKSize_any kind _ l _ (hl.below hB) hn (by omega) hcb
        have HSCZ := Lib.hid hsc
        have HCB := Lib.hid hcb
        have HKBD := Lib.hid hkb
        have HPK := Lib.hid hpk
        clear hall hsc HSC HOK hbg hcb hkb hpk
        obtain ⟨S, hSS⟩ : ∃ S, psizeF kind (pcs l) = S := ⟨_, rfl⟩
        rw [hSS] at hsz
        have HSS := Lib.hid hSS
        have hSe : S = 10 + sharedF kind (pcs l) + 2 * l.length + (pbodyF kind (sharedF kind (pcs l)) 0 (pcs l)).length := by rw [← hSS, ← pcs_length l]; rfl
        clear hSS
        by_cases hbig : Q < S
        · have henc : encK kind (pcs l) Q = 61 := by
            unfold encK
            rw [HSCZ.out, if_neg (by simp), if_pos (by rw [HSS.out]; exact hbig)]
          have HE := Lib.hid henc
          have ib : (Q : Int) < (S : Int) := by omega
          clear henc hSe
          go_wp2_with (first | (go_at_call 122; refine hsz.mono ?_; rintro e w2 ⟨rfl, hb2⟩) | fail)
          go_ret2
          unfold REncKAt
          rw [show ((Q : Int)).toNat = Q from rfl, HE.out]
          exact ⟨hB.trans (hb2.mono hB.size), .inr ⟨HK.out, .inl ⟨by omega, rfl⟩⟩⟩
        · have henc : encK kind (pcs l) Q = 0 := by
            unfold encK
            rw [HSCZ.out, if_neg (by simp), if_neg (by rw [HSS.out]; exact hbig)]
          have HE := Lib.hid henc
          have hSQ : Hid (psizeF kind (pcs l) ≤ Q) := Lib.hid (by rw [HSS.out]; omega)
          have ib : ¬ ((Q : Int) < (S : Int)) := by omega
          have hpl := prefF_length kind (pcs l)
          have HLD : Hid (laidK kind (pcs l) Q = preK kind (pcs l) Q ++ fixedF (sumF (preK kind (pcs l) Q)) 4) := Lib.hid rfl
          have hprl : (preK kind (pcs l) Q).length = Q - 4 := preK_length hSQ.out
          have HPRL := Lib.hid hprl
          have hprk : preK kind (pcs l) Q = (([u8I kind, 2] ++ fixedF l.length 2) ++ fixedF (sharedF kind (pcs l)) 2) ++ prefF kind (pcs l) ++ pslotsF kind (sharedF kind (pcs l)) (6 + sharedF kind (pcs l) + 2 * l.length) 0 (pcs l) ++ pbodyF kind (sharedF kind (pcs l)) 0 (pcs l) ++ List.replicate (Q - S) 0 := by
            unfold preK
            rw [HSS.out, pcs_length]
            simp
          have HPRK := Lib.hid hprk
          have HSE := Lib.hid hSe
          have HSH := fun W hW => RKShared_any kind (.slice A l.length c) l W hW hn HKBD.out
          have HBY := Lib.hid (fun (k : Nat) (hk : k < l.length) W (hW : l[k].ok W) => RKbytes_any kind k l[k] (sharedF kind (pcs l)) W hW (fun h => by
            have := HPK.out k (by rw [pcs_length]; exact hk) h
            rw [pcs_at hk] at this; exact this) (HCB.out _ (List.getElem_mem hk)))
          have HST := Lib.hid (fun (k : Nat) (hk : k < l.length) => pslots_step kind (sharedF kind (pcs l)) (6 + sharedF kind (pcs l) + 2 * l.length) (pcs l) (k := k) (by rw [pcs_length]; exact hk))
          have HBS := Lib.hid (fun (k : Nat) (hk : k < l.length) => (pbody_step kind (sharedF kind (pcs l)) (pcs l) (k := k) (by rw [pcs_length]; exact hk)).trans (by rw [pcs_at hk]))
          have hBL := pbody_take_le kind (sharedF kind (pcs l)) (pcs l)
          have hsl := fun k => pslotsF_length kind (sharedF kind (pcs l)) (6 + sharedF kind (pcs l) + 2 * l.length) 0 ((pcs l).take k)
          have HSL := Lib.hid hsl
          clear henc hprl hprk HCB HKBD HPK hsl
          generalize sharedF kind (pcs l) = s at *
          generalize prefF kind (pcs l) = pf at *
          obtain ⟨B, hBq⟩ : ∃ B, (pbodyF kind s 0 (pcs l)).length = B := ⟨_, rfl⟩
          rw [hBq] at hSe hBL
          have HBQ := Lib.hid hBq
          have HBL := Lib.hid hBL
          have HPL := Lib.hid hpl
          have hfit : 10 + s + 2 * l.length + B ≤ Q := by omega
          have hS1 : Sep w w1 [oldE w] := (Sep.start w).below hB
          clear hBq hSe hBL hpl hB
          go_upto_region 17 with (first | (go_at_call 122; refine hsz.mono ?_; rintro e w2 ⟨rfl, hb2⟩) | fail)
          have hS2 := hS1.below hb2
          have hsh := HSH w2 (hl.below (hS2.belowOld (_v := w) (by simp)))
          clear hS1 hb2 hsz HSH ib
          go_upto_region 18 with (first | (go_at_call 123; refine hsh.mono ?_; rintro e w3 ⟨v3, rfl, ho3, hb3⟩) | fail)
          obtain ⟨PA, pc, rfl⟩ := Own.slice ho3
          have hS3 := hS2.bytes hb3 ho3 (Nat.le_refl _)
          rw [HPL.out] at hS3 ⊢
          have hkw := wrap_u8I kind
          have hS4 := (hS3.alloc 5 (bvs [u8I kind, 2])).weak (E' := bytesE (.slice (some ⟨w3.heap.size, 0, none⟩) 2 2) [u8I kind, 2]) (fun h => OBlk.owB' (m := [u8I kind, 2]) h (Nat.zero_le _) (by simp [maxLen])) (fun g hg => (Option.some.inj hg).symm)
          have HS4 := Lib.hid hS4
          clear hS4 hsh ho3 hb3 hS2 hS3
          go_upto_region 19 with (fail)
          have hS4 : Sep w (w3.alloc (.cells #[.int .u8 ((u8I kind).toNat : Int), .int .u8 2] 5)) [bytesE (.slice (some ⟨w3.heap.size, 0, none⟩) 2 2) [u8I kind, 2], bytesE (.slice PA s pc) pf, oldE w] := HS4.out
          generalize w3.alloc (.cells #[.int .u8 ((u8I kind).toNat : Int), .int .u8 2] 5) = w4 at *
          generalize w3.heap.size = g4 at *
          have hwn : IntKind.u64.wrap (l.length : Int) = (l.length : Int) := IntWalk.u64_in _ (by omega)
          clear HS4 hkw
          go_upto_region 20 with (first | (go_at_call 117; refine (KFixed_2 l.length (by omega) _).mono ?_; rintro e w5 ⟨v5, rfl, ho5, hb5⟩) | fail)
          have hS5 : Sep w w5 [bytesE (.slice (some ⟨g4, 0, none⟩) 2 2) [u8I kind, 2], bytesE v5 (fixedF l.length 2), bytesE (.slice PA s pc) pf, oldE w] := (hS4.bytes hb5 ho5 (Nat.le_refl _)).sw1
          have ha6 := RKadd_sep (u := v5) hS5 (RdIn.bytes (l := fixedF l.length 2) (by simp)) (by simp [fixedF_length])
          clear hS4 ho5 hb5 hwn
          go_upto_region 21 with (first | (go_at_call 124; refine ha6.mono ?_; rintro e w6 ⟨v6, rfl, hS6⟩) | fail)
          have hS6 : Sep w w6 [bytesE v6 ([u8I kind, 2] ++ fixedF l.length 2), bytesE (.slice PA s pc) pf, oldE w] := (hS6.sw1).tail
          have hws : IntKind.u64.wrap (s : Int) = (s : Int) := IntWalk.u64_in _ (by omega)
          clear hS5 ha6
          go_upto_region 22 with (first | (go_at_call 117; refine (KFixed_2 s (by omega) _).mono ?_; rintro e w7 ⟨v7, rfl, ho7, hb7⟩) | fail)
          have hS7 : Sep w w7 [bytesE v6 ([u8I kind, 2] ++ fixedF l.length 2), bytesE v7 (fixedF s 2), bytesE (.slice PA s pc) pf, oldE w] := (hS6.bytes hb7 ho7 (Nat.le_refl _)).sw1
          have ha8 := RKadd_sep (u := v7) hS7 (RdIn.bytes (l := fixedF s 2) (by simp)) (by simp [fixedF_length])
          clear hS6 ho7 hb7 hws
          go_upto_region 23 with (first | (go_at_call 124; refine ha8.mono ?_; rintro e w8 ⟨v8, rfl, hS8⟩) | fail)
          have hS8 : Sep w w8 [bytesE v8 (([u8I kind, 2] ++ fixedF l.length 2) ++ fixedF s 2), bytesE (.slice PA s pc) pf, oldE w] := (hS8.sw1).tail
          have ha9 := RKadd_sep (u := .slice PA s pc) hS8 (RdIn.bytes (l := pf) (by simp)) (by simp [fixedF_length, HPL.out]; omega)
          have hl9 : (([u8I kind, 2] ++ fixedF l.length 2) ++ fixedF s 2 ++ pf).length = 6 + s := by simp [fixedF_length, HPL.out]; omega
          clear hS7 ha8
          go_upto_region 24 with (first | (go_at_call 124; refine ha9.mono ?_; rintro e w9 ⟨v9, rfl, hS9⟩) | fail)
          generalize ([u8I kind, 2] ++ fixedF l.length 2) ++ fixedF s 2 ++ pf = H0 at *
          have ho9 : OwB w9 0 v9 H0 := hS9.head
          obtain ⟨OA, oc, rfl⟩ := Own.slice ho9
          rw [hl9] at hS9 ⊢
          obtain ⟨a0, ha0⟩ : ∃ a0, 6 + s + 2 * l.length = a0 := ⟨_, rfl⟩
          have HA0 := Lib.hid ha0
          have HL9 := Lib.hid hl9
          clear hS8 ha9 ho9 hl9
          go_wp2_with fail
          rw [show (6 + (s : Int) + 2 * (l.length : Int)) = (a0 : Int) by omega]
          have ha0Q : a0 + B + 4 ≤ Q := by omega
          clear ha0
          go_loopw [14, 18, 19, 20, 21] (fun o bd i _ _ wr => ∃ k : Nat, k ≤ l.length ∧ i = .int .i64 (k : Int) ∧ Sep w wr [bytesE o (H0 ++ pslotsF kind s (6 + s + 2 * l.length) 0 ((pcs l).take k)), bytesE bd (pbodyF kind s 0 ((pcs l).take k)), bytesE (.slice PA s pc) pf, oldE w]) (fun _ _ i _ _ _ => l.length - (intOf i).toNat)
          case atStart => exact ⟨0, Nat.zero_le _, rfl, by simpa [pslotsF, pbodyF] using hS9.nil.sw1⟩
          case round =>
            clear hS9
            obtain ⟨k, hk, rfl, hS⟩ := hrel
            by_cases hlt : k < l.length
            · have ik : (k : Int) < (l.length : Int) := by omega
              have hst := HST.out k hlt
              have hbs := HBS.out k hlt
              have hbk := HBL.out k
              have hbk1 := HBL.out (k + 1)
              have hslk := HSL.out k
              have hl9 := HL9.out
              rw [hbs, List.length_append] at hbk1
              rw [List.length_take, pcs_length, Nat.min_eq_left hk] at hslk
              have hBw := hS.belowOld (_v := w) (by simp)
              obtain ⟨ad, rfl, -⟩ := (hl.below hBw).at_ hlt
              have HCE := Lib.hid (fun W (hb : Below w.heap.size w W) => (hl.below hb).at_ hlt)
              have HOK := Lib.hid (fun W (hb : Below w.heap.size w W) => (hl.below hb).ok _ (List.getElem_mem hlt))
              have hby := HBY.out k hlt
              have hx := (hl.below hBw).ok _ (List.getElem_mem hlt)
              generalize l[k] = x at *
              obtain ⟨A1, a1, B1, b1, key, ck, val, pg, ct, rfl, _, _⟩ := CV.form hx
              unfold cellV at hby
              simp only at hbs hbk1 hby
              obtain ⟨BA, bc, rfl⟩ := Own.slice (hS.tail.head : OwB wr 0 _ _)
              obtain ⟨q, hq⟩ : ∃ q, (pbodyF kind s 0 ((pcs l).take k)).length = q := ⟨_, rfl⟩
              obtain ⟨p, hp⟩ : ∃ p, a0 + q = p := ⟨_, rfl⟩
              have hst2 : pslotsF kind s (6 + s + 2 * l.length) 0 ((pcs l).take (k + 1)) = pslotsF kind s (6 + s + 2 * l.length) 0 ((pcs l).take k) ++ fixedF p 2 := by
                rw [hst, hq, HA0.out, hp]
              have hw1 : IntKind.u64.wrap ((a0 : Int) + (q : Int)) = (p : Int) := by rw [IntWalk.u64_in _ (by omega)]; omega
              have hpb : p < 18446744073709551616 := by omega
              rw [hq] at hS hbk hbk1 ⊢
              have hlo : (H0 ++ pslotsF kind s (6 + s + 2 * l.length) 0 ((pcs l).take k)).length ≤ 131072 := by rw [List.length_append, hl9, hslk]; omega
              have hln : (pcF kind k ⟨key, ck, val, pg, ct⟩ s).length + q ≤ 65536 := by omega
              have FIN : Hid (∀ W o bd, Sep w W [bytesE o (H0 ++ pslotsF kind s (6 + s + 2 * l.length) 0 ((pcs l).take k) ++ fixedF p 2), bytesE bd (pbodyF kind s 0 ((pcs l).take k) ++ pcF kind k ⟨key, ck, val, pg, ct⟩ s), bytesE (.slice PA s pc) pf, oldE w] →
                  Sep w W [bytesE o (H0 ++ pslotsF kind s (6 + s + 2 * l.length) 0 ((pcs l).take (k + 1))), bytesE bd (pbodyF kind s 0 ((pcs l).take (k + 1))), bytesE (.slice PA s pc) pf, oldE w]) := Lib.hid (fun W o bd h => by
                rw [hst2, hbs, ← List.append_assoc]; exact h)
              have HQ := Lib.hid hq
              clear hst hst2 hbs hbk hbk1 hslk hl9 hBw hx hp hq
              generalize hOUT : H0 ++ pslotsF kind s (6 + s + 2 * l.length) 0 ((pcs l).take k) = OUT at *
              generalize hBOD : pbodyF kind s 0 ((pcs l).take k) = BOD at *
              generalize pcF kind k ⟨key, ck, val, pg, ct⟩ s = PCF at *
              clear hOUT hBOD
              go_upto_region 30 with (first | (go_at_call 117; refine (KFixed_2 p hpb _).mono ?_; rintro e w5 ⟨v5, rfl, ho5, hb5⟩) | fail)
              have hS5 := (hS.bytes hb5 ho5 (Nat.le_refl _)).sw1
              have ha6 := RKadd_sep (u := v5) hS5 (RdIn.bytes (l := fixedF p 2) (by simp)) (by rw [fixedF_length]; omega)
              clear hS ho5 hb5 hw1
              go_upto_region 31 with (first | (go_at_call 124; refine ha6.mono ?_; rintro e w6 ⟨v6, rfl, hS6⟩) | fail)
              have hS6 : Sep w w6 [bytesE v6 (OUT ++ fixedF p 2), bytesE (.slice BA q bc) BOD, bytesE (.slice PA s pc) pf, oldE w] := (hS6.sw1).tail
              have hB6 := hS6.belowOld (_v := w) (by simp)
              obtain ⟨_, ea, d0, d1, d2, d3, d4⟩ := HCE.out w6 hB6
              cases ea
              have hby6 := hby w6 (HOK.out w6 hB6)
              clear hS5 ha6 hby
              go_upto_region 32 with (first | (go_at_call 125; refine hby6.mono ?_; rintro e w7 ⟨v7, rfl, ho7, hb7⟩) | fail)
              have hS7 : Sep w w7 [bytesE (.slice BA q bc) BOD, bytesE v7 PCF, bytesE v6 (OUT ++ fixedF p 2), bytesE (.slice PA s pc) pf, oldE w] := (hS6.bytes hb7 ho7 (Nat.le_refl _)).sw [bytesE v7 PCF, bytesE v6 (OUT ++ fixedF p 2)]
              have ha8 := RKadd_sep (u := v7) hS7 (RdIn.bytes (l := PCF) (by simp)) (by rw [HQ.out]; omega)
              clear hS6 hb7 ho7 hB6 d0 d1 d2 d3 d4 hby6
              go_wp2_with (first | (go_at_call 124; refine ha8.mono ?_; rintro e w8 ⟨v8, rfl, hS8⟩) | fail)
              have hS9 : Sep w w8 [bytesE v6 (OUT ++ fixedF p 2), bytesE v8 (BOD ++ PCF), bytesE (.slice PA s pc) pf, oldE w] := ((hS8.sw1).tail).sw1
              exact ⟨⟨k + 1, by omega, by go_num, FIN.out _ _ _ hS9⟩, by simp [intOf]; omega⟩
            · obtain rfl : k = l.length := by omega
              have e : (pcs l).take l.length = pcs l := List.take_of_length_le (by rw [pcs_length]; omega)
              rw [e] at hS
              have hslk := HSL.out l.length
              rw [e, pcs_length] at hslk
              have hl9 := HL9.out
              have hbq := HBQ.out
              have hH : (H0 ++ pslotsF kind s (6 + s + 2 * l.length) 0 (pcs l) ++ pbodyF kind s 0 (pcs l)).length = a0 + B := by
                have := HA0.out
                rw [List.length_append, List.length_append, hl9, hslk, hbq]; omega
              have hl1 : (H0 ++ pslotsF kind s (6 + s + 2 * l.length) 0 (pcs l)).length + (pbodyF kind s 0 (pcs l)).length ≤ 140737488355328 := by
                rw [← List.length_append, hH]; omega
              have ha := RKadd_sep hS (RdIn.bytes (l := pbodyF kind s 0 (pcs l)) (List.mem_cons_self ..)) hl1
              have hz : ∀ z, a0 + B + z = Q - 4 → H0 ++ pslotsF kind s (6 + s + 2 * l.length) 0 (pcs l) ++ pbodyF kind s 0 (pcs l) ++ List.replicate z 0 = preK kind (pcs l) Q := fun z hz => by
                have h1 := HPRK.out
                have h2 := HA0.out
                have h3 := HSS.out
                have h5 := HSE.out
                rw [HBQ.out] at h5
                rw [h1, show z = Q - S by omega]
              have HZ := Lib.hid hz
              have HPL2 := HPRL.out
              clear e hslk hl9 hbq hl1 hz
              generalize hHH : H0 ++ pslotsF kind s (6 + s + 2 * l.length) 0 (pcs l) ++ pbodyF kind s 0 (pcs l) = H at *
              clear hHH
              go_wp2_with (first | (go_at_call 124; refine ha.mono ?_; rintro e w5 ⟨v5, rfl, hS5⟩) | fail)
              have hS5 : Sep w w5 [bytesE v5 H, oldE w] := ((hS5.sw1).tail.sw1).tail
              clear ha hS
              go_loopw [14] (fun b wr => ∃ z : Nat, a0 + B + z ≤ Q - 4 ∧ Sep w wr [bytesE b (H ++ List.replicate z 0), oldE w]) (fun b _ => Q - slnK b)
              case atStart => exact ⟨0, by omega, by simpa using hS5⟩
              case round =>
                clear hS5
                obtain ⟨z, hz, hS⟩ := hrel
                have hob : OwB wr 0 _ _ := hS.head
                obtain ⟨Ab, cb, rfl⟩ := Own.slice hob
                have hnl : (H ++ List.replicate z 0).length = a0 + B + z := by rw [List.length_append, hH, List.length_replicate]
                have HRZ : Hid (H ++ List.replicate (z + 1) 0 = (H ++ List.replicate z 0) ++ [0]) := Lib.hid (by rw [List.replicate_succ', List.append_assoc])
                have HPR := HZ.out z
                obtain ⟨n, hn'⟩ : ∃ n, (H ++ List.replicate z (0 : UInt8)).length = n := ⟨_, rfl⟩
                rw [hn'] at hnl
                generalize H ++ List.replicate z 0 = bz at *
                have HPR := Lib.hid HPR
                rw [hn'] at hob hS ⊢
                have hn1 : n ≤ a0 + B + z := by omega
                have hn2 : a0 + B + z ≤ n := by omega
                clear hnl
                by_cases hlt : n < Q - 4
                · have ilt : (n : Int) < (Q : Int) - 4 := by omega
                  have hn140 : bz.length + 1 ≤ 140737488355328 := by omega
                  clear HPR
                  go_wp2_with (first
                    | (at_builtin; refine wp_append_B1 rfl (.tmp 137) (.tmp 138) rfl 0 _ _ rfl hob 0 _ rfl 5 rfl hn140 (Nat.zero_le _) ?_; intro v8 w8 ho8 hg8 hk8; have hS8 := hS.appended1 ho8 hg8 hk8)
                    | fail)
                  obtain ⟨A8, c8, rfl⟩ := Own.slice (hS8.head : OwB w8 0 _ _)
                  have hl8 : (bz ++ [(0 : UInt8)]).length = n + 1 := by rw [List.length_append, hn']; rfl
                  exact ⟨⟨z + 1, by omega, by rw [HRZ.out]; exact hS8⟩, by show Q - (bz ++ [(0 : UInt8)]).length < Q - n; rw [hl8]; omega⟩
                · have ilt : ¬ (n : Int) < (Q : Int) - 4 := by omega
                  have hpre := HPR.out (by omega)
                  have hsl4 : sumF (preK kind (pcs l) Q) < 4294967296 := sumF_lt _
                  have hpl2 : (preK kind (pcs l) Q).length + 4 ≤ 140737488355328 := by rw [HPL2]; omega
                  subst hpre
                  have hso := SumOf_any _ (preK kind (pcs l) Q) wr hob.rd
                  generalize hsm : sumF (preK kind (pcs l) Q) = sm at *
                  have hsw : IntKind.u64.wrap (sm : Int) = (sm : Int) := IntWalk.u64_in _ (by omega)
                  have hn3 : n + 4 ≤ 70000 := by omega
                  have HLL := Lib.hid hn'
                  clear hsm HPR HRZ hn1 hn2 hn' hpl2 HPL2
                  go_upto_region 37 with (first
                    | (go_at_call 119; refine hso.mono ?_; rintro e w10 ⟨rfl, rfl⟩)
                    | fail)
                  go_upto_region 38 with (first
                    | (go_at_call 117; refine (KFixed_4 sm (by omega) _).mono ?_; rintro e w10 ⟨v10, rfl, ho10, hb10⟩)
                    | fail)
                  have hS10 := (hS.bytes hb10 ho10 (Nat.le_refl _)).sw1
                  have ha11 := RKadd_sep (u := v10) hS10 (RdIn.bytes (l := fixedF sm 4) (by simp)) (by rw [fixedF_length, HLL.out]; omega)
                  clear hso ho10 hb10
                  go_wp2_with (first | (go_at_call 124; refine ha11.mono ?_; rintro e w11 ⟨v11, rfl, hS11⟩) | fail)
                  go_ret2
                  unfold REncKAt
                  rw [show ((Q : Int)).toNat = Q from rfl, HE.out, HLD.out]
                  exact ⟨(hS11.sw1.tail).belowOld (_v := w) (by simp), .inr ⟨HK.out, .inr ⟨rfl, v11, rfl, (hS11.sw1.tail).ownOld (by simp)⟩⟩⟩
end Go.Proofs.YtfcnkpofcekmgaaGreat

-- packed pages: Encode of both sides, told alike.
namespace Go.Proofs.YtfcnkpofcekmgaaGreat
open Go.RowKit
/-! ### Encode -/
def encKZ (kind : Int) (l : List PC) (P : Int) : Int := if (isKindB kind && isPowB P) = true then encK kind l P.toNat else 1
def encKL (kind : Int) (l : List PC) (P : Int) : List UInt8 := if encKZ kind l P = 0 then laidK kind l P.toNat else []
theorem encKL_length (kind : Int) (l : List PC) (P : Int) : (encKL kind l P).length ≤ 65536 := by
  unfold encKL
  split
  · rename_i h
    unfold encKZ at h
    split at h
    · rename_i h2
      rw [Bool.and_eq_true] at h2
      have := isPowB_range h2.2
      rw [laidK_length (encK_zero.1 h).2]; omega
    · cases h
  · simp
theorem KEncZ (kind : Int) (v : Value) (l : List CV) (P : Int) (hPr : i64r P) (w : World) (hl : RdCs w v l) (hn : l.length ≤ 2000000000000) :
    Calls Tryz.prog 82 #[.int .i64 kind, v, .int .i64 P] w fun e w' => ∃ u, e = .returned (.tuple #[u, .int .i64 (encKZ kind (pcs l) P)]) ∧ OwB w' w.heap.size u (encKL kind (pcs l) P) ∧ Below w.heap.size w w' := by
  refine (KEncode_any kind v l P hPr w hl hn).mono ?_
  unfold EncKAt encKL encKZ
  rintro e w' ⟨hb, ⟨h1, rfl⟩ | ⟨h1, ⟨h2, rfl⟩ | ⟨h2, g, rfl, hg, ho⟩⟩⟩
  · rw [if_neg (by rw [h1]; simp), if_neg (by decide)]
    exact ⟨_, rfl, OwB.nil _ _, hb⟩
  · rw [if_pos h1, if_neg h2]
    exact ⟨_, rfl, OwB.nil _ _, hb⟩
  · rw [if_pos h1, if_pos h2, h2]
    rw [Bool.and_eq_true] at h1
    have hP := isPowB_range h1.2
    have hl := laidK_length (kind := kind) (encK_zero.1 h2).2
    have h3 := ho.owB' hg (by rw [hl]; simp only [maxLen]; omega)
    rw [hl] at h3
    exact ⟨_, rfl, h3, hb⟩
end Go.Proofs.YtfcnkpofcekmgaaGreat

-- ink.ReadUint, espalierref01.ReadUint: walks.
namespace Go.Proofs.YtfcnkpofcekmgaaGreat
open Go.RowKit
end Go.Proofs.YtfcnkpofcekmgaaGreat
