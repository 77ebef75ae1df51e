/-
  The plain law of ShelfOnly.
-/
import Derived.Test.YtfahakmnlmlgcaaKeepsP
import Derived.Test.YtfahakmnlmlgcaaSlots
import Derived.Test.YtfahakmnlmlgcaaAsk
namespace Go.Proofs.Ytfahakmnlmlgcaa
open Go.RowKit Go.Lib
set_option linter.unusedVariables false
set_option linter.unusedSimpArgs false

theorem varint_le6 {x : Nat} (h : x ≤ 1099511627776) : (varint x).length ≤ 6 := (varint_len 5 x (Nat.lt_of_le_of_lt h (by decide))).2
theorem varint_le1 {x : Nat} (h : x ≤ 127) : (varint x).length ≤ 1 := (varint_len 0 x (by simpa using Nat.lt_of_le_of_lt h (by decide : 127 < 128))).2
theorem tb_le {s : ByteArray} (h : s.size ≤ 127) : (tb s).length ≤ s.size + 1 := by
  have := varint_le1 h
  have e : s.data.toList.length = s.size := rfl
  rw [tb, List.length_append, e]; omega
/-- A slot fits in a sheet. -/
theorem slotB_fits {q : Option Qu} (h : ∀ r, q = some r → QuOK r) : (slotB q).length ≤ 2197 := by
  cases q with
  | none => simp [slotB]
  | some q =>
    have Q := h q rfl
    have h1 := tb_le (s := q.name) (by have := Q.name; omega)
    have h2 := varint_le6 (x := q.first) (by have := Q.fin; omega)
    have h3 := varint_le1 (x := q.items.length) (by have := Q.len; omega)
    have h4 := flat_len tb 65 q.items (fun s hs => by have := tb_le (s := s) (by have := Q.items s hs; omega); have := Q.items s hs; omega)
    have h5 := varint_le1 (x := q.groups.length) (by have := Q.glen; omega)
    have h6 := flat_len gb 23 (srtK (·.1) q.groups) (fun p hp => by
      have hp' := (srtK_perm (·.1) q.groups).mem_iff.1 hp
      have g := Q.groups p hp'
      have g1 := tb_le (s := p.1) (by omega)
      have g2 := varint_le6 (x := p.2) (by have := Q.fin; omega)
      rw [gb, List.length_append]; omega)
    rw [srtK_length] at h6
    have n1 := Q.name
    have n2 := Q.len
    have n3 := Q.glen
    simp only [slotB, List.length_append]
    omega

/-- A result that may be. -/
structure ResOK (r : Res) : Prop where
  code : r.code ≤ 4
  other : r.code ≠ 0 → r.num = 0 ∧ r.items = []
  num : r.num ≤ 1099511627776
  len : r.items.length ≤ 8
  each : ∀ s ∈ r.items, s.size ≤ 64
theorem ResOK.check {r : Res} (h : ResOK r) : checkResS r.code r.num r.items = 0 := by
  have h1 := h.code
  have h2 := h.num
  have h3 := h.len
  unfold checkResS
  rw [if_neg (by omega), if_neg, if_neg (by omega), if_neg (by omega), if_neg]
  · simp only [List.any_eq_true, decide_eq_true_eq, not_exists, not_and]
    intro s hs
    have := h.each s hs; omega
  · intro hc
    have := h.other (by omega)
    rw [this.1, this.2] at hc
    simp at hc
theorem ResOK.zero (c : Nat) (hc : c ≤ 4) (n : Nat) (hn : n ≤ 1099511627776) (h0 : c ≠ 0 → n = 0) : ResOK ⟨c, n, []⟩ := ⟨hc, fun h => ⟨h0 h, rfl⟩, hn, by simp, by simp⟩

theorem act_res {S : Nat → Option Qu} (hG : GoodS S) (o : OpS) (ok : OpOK o) (i : Nat) (hi : i < 8) : ResOK (act S i o).1 := by
  unfold act
  by_cases k1 : o.kind = 1
  · rw [if_pos k1]; exact ResOK.zero 0 (by omega) 0 (by omega) (by omega)
  rw [if_neg k1]
  by_cases k8 : o.kind = 8
  · rw [if_pos k8]
    refine ⟨by simp, by simp, by simp, ?_, ?_⟩
    · simp only [List.length_map, listQ, srtK_length]
      exact queuesUp_len S 8
    · intro s hs
      simp only [List.mem_map] at hs
      obtain ⟨q, hq, rfl⟩ := hs
      have hq' := (srtK_perm (·.name) (queuesUp S 8)).mem_iff.1 hq
      simp only [queuesUp, List.mem_filterMap, List.mem_range] at hq'
      obtain ⟨j, hj, hjq⟩ := hq'
      have := (hG.each j hj q hjq).name; omega
  rw [if_neg k8]
  cases hq : S i with
  | none => exact ResOK.zero 0 (by omega) 0 (by omega) (by omega)
  | some q =>
    have Q := hG.each i hi q hq
    have hfin := Q.fin
    have hlen := Q.len
    simp only
    by_cases k2 : o.kind = 2
    · rw [if_pos k2]; exact ResOK.zero 0 (by omega) 0 (by omega) (by omega)
    rw [if_neg k2]
    by_cases k3 : o.kind = 3
    · rw [if_pos k3]
      split
      · exact ResOK.zero 3 (by omega) 0 (by omega) (by omega)
      · exact ResOK.zero 0 (by omega) _ (by omega) (by omega)
    rw [if_neg k3]
    by_cases k4 : o.kind = 4
    · rw [if_pos k4]
      split
      · exact ResOK.zero 0 (by omega) 0 (by omega) (by omega)
      · exact ResOK.zero 0 (by omega) _ (by omega) (by omega)
    rw [if_neg k4]
    have one : ∀ j n : Nat, n ≤ 1099511627776 → ResOK ⟨0, n, [q.items.getD j ByteArray.empty]⟩ := by
      intro j n hn
      refine ⟨by simp, by simp, hn, by simp, fun s hs => ?_⟩
      simp only [List.mem_singleton] at hs
      subst hs
      by_cases hj : j < q.items.length
      · have : q.items.getD j ByteArray.empty = q.items[j] := by simp [hj]
        rw [this]
        exact Q.items _ (List.getElem_mem hj)
      · have : q.items.getD j ByteArray.empty = ByteArray.empty := by simp [List.getD, List.getElem?_eq_none (Nat.le_of_not_lt hj)]
        rw [this]; simp
    by_cases k5 : o.kind = 5
    · rw [if_pos k5]
      split
      · rename_i x hx
        have hm := Q.groups _ (grp_mem hx)
        simp only at hm
        split
        · exact ResOK.zero 4 (by omega) 0 (by omega) (by omega)
        · exact one _ x (by omega)
      · split
        · exact ResOK.zero 3 (by omega) 0 (by omega) (by omega)
        · split
          · exact ResOK.zero 4 (by omega) 0 (by omega) (by omega)
          · exact one 0 q.first (by omega)
    rw [if_neg k5]
    by_cases k6 : o.kind = 6
    · rw [if_pos k6]
      have hnum := ok.num (.inr k6)
      have hmost := ok.most k6
      split
      · exact ResOK.zero 0 (by omega) _ (by omega) (by omega)
      · refine ⟨by simp, by simp, by simp only; omega, by simp only [List.length_take]; omega, fun s hs => ?_⟩
        exact Q.items s (List.mem_of_mem_drop (List.mem_of_mem_take hs))
    rw [if_neg k6]
    exact ResOK.zero 0 (by omega) _ (by omega) (by omega)

/-- What is wanted of an answer. -/
structure OnlyOut (S : Nat → Option Qu) (o : OpS) (a : Ans) : Prop where
  err : a.e = checkS o
  res : a.e = 0 → checkResS a.r.code a.r.num a.r.items = 0
  none : a.e ≠ 0 → a.k = 0 ∧ a.S = S
  one : a.e = 0 → ∀ n, n < 8 → (slotB (S n) = slotB (a.S n) ↔ (n : Int) ≠ a.k)
  range : -1 ≤ a.k ∧ a.k < 8
  fits : ∀ n, n < 8 → (slotB (a.S n)).length ≤ 2197
  ask : a.e = 0 → 6 ≤ o.kind ∧ o.kind ≤ 8 → a.S = S

theorem only_slot (S T : Nat → Option Qu) (i : Nat) (hi : i < 8) (h : ∀ j, j ≠ i → T j = S j) :
    (∀ n, n < 8 → (slotB (S n) = slotB (T n) ↔ (n : Int) ≠ (if slotB (S i) = slotB (T i) then -1 else (i : Int)))) ∧ -1 ≤ (if slotB (S i) = slotB (T i) then -1 else (i : Int)) ∧ (if slotB (S i) = slotB (T i) then -1 else (i : Int)) < 8 := by
  split
  · rename_i he
    refine ⟨fun n hn => ⟨fun _ => by omega, fun _ => ?_⟩, by omega, by omega⟩
    by_cases hni : n = i
    · subst hni; exact he
    · rw [h n hni]
  · rename_i he
    refine ⟨fun n hn => ⟨fun h1 h2 => ?_, fun h1 => ?_⟩, by omega, by omega⟩
    · have : n = i := by omega
      subst this; exact he h1
    · rw [h n (by omega)]

theorem only_all {S : Nat → Option Qu} (hG : GoodS S) (o : OpS) : OnlyOut S o (doS S o) := by
  have hgd := doS_good hG o
  have he := doS_e S o
  have fits : ∀ n, n < 8 → (slotB ((doS S o).S n)).length ≤ 2197 := fun n hn => slotB_fits (fun r hr => hgd.each n hn r hr)
  have same : ∀ n, n < 8 → (slotB (S n) = slotB (S n) ↔ (n : Int) ≠ -1) := fun n _ => ⟨fun _ => by omega, fun _ => rfl⟩
  refine ⟨he, fun h0 => ?_, fun h0 => ?_, fun h0 => ?_, ?_, fits, fun h0 hk => doS_query S o hk⟩
  · have ok := checkS_ok (he ▸ h0)
    have hc : ¬ checkS o ≠ 0 := by rw [← he]; simpa using h0
    refine ResOK.check ?_
    rw [doS, if_neg hc]
    by_cases k8 : o.kind = 8
    · rw [if_pos k8]; exact act_res hG o ok 0 (by omega)
    rw [if_neg k8]
    cases hf : firstK (isQ S o.name) with
    | some i =>
      simp only
      split
      · exact ResOK.zero 2 (by omega) 0 (by omega) (by omega)
      · exact act_res hG o ok i (firstK_spec hf).1
    | none =>
      simp only
      split
      · cases hr : firstK (isFree S) with
        | some i => exact act_res hG o ok i (firstK_spec hr).1
        | none => exact ResOK.zero 3 (by omega) 0 (by omega) (by omega)
      · exact ResOK.zero 1 (by omega) 0 (by omega) (by omega)
  · rw [doS, if_pos (he ▸ h0)]
    exact ⟨rfl, rfl⟩
  · have hc : ¬ checkS o ≠ 0 := by rw [← he]; simpa using h0
    rw [doS, if_neg hc]
    by_cases k8 : o.kind = 8
    · rw [if_pos k8]; exact same
    rw [if_neg k8]
    cases hf : firstK (isQ S o.name) with
    | some i =>
      simp only
      split
      · exact same
      · exact (only_slot S _ i (firstK_spec hf).1 (fun j hj => act_other S i j o hj)).1
    | none =>
      simp only
      split
      · cases hr : firstK (isFree S) with
        | some i => exact (only_slot S _ i (firstK_spec hr).1 (fun j hj => act_other S i j o hj)).1
        | none => exact same
      · exact same
  · unfold doS
    split
    · exact ⟨by simp, by simp⟩
    split
    · exact ⟨by simp, by simp⟩
    cases hf : firstK (isQ S o.name) with
    | some i =>
      simp only
      split
      · exact ⟨by simp, by simp⟩
      · exact (only_slot S _ i (firstK_spec hf).1 (fun j hj => act_other S i j o hj)).2
    | none =>
      simp only
      split
      · cases hr : firstK (isFree S) with
        | some i => exact (only_slot S _ i (firstK_spec hr).1 (fun j hj => act_other S i j o hj)).2
        | none => exact ⟨by simp, by simp⟩
      · exact ⟨by simp, by simp⟩
end Go.Proofs.Ytfahakmnlmlgcaa
