/-
  What Do does, in plain Lean.
-/
import Derived.Test.YtfahakmnlmlgcaaShelfA
import Derived.Test.YtfahakmnlmlgcaaShelfG
import Derived.Test.YtfahakmnlmlgcaaShelfI
import Derived.Test.YtfahakmnlmlgcaaShelfL
import Derived.Test.YtfahakmnlmlgcaaList
namespace Go.Proofs.Ytfahakmnlmlgcaa
open Go.RowKit Go.Lib
set_option linter.unusedVariables false
set_option linter.unusedSimpArgs false

structure Res where
  code : Nat
  num : Nat
  items : List ByteArray

/-- What an op does on a slot (that it may be on). -/
def act (S : Nat → Option Qu) (i : Nat) (o : OpS) : Res × (Nat → Option Qu) :=
  if o.kind = 1 then (⟨0, 0, []⟩, put S i (some ⟨o.name, 0, [], []⟩))
  else if o.kind = 8 then (⟨0, 0, (listQ S).map (·.name)⟩, S)
  else match S i with
  | none => (⟨0, 0, []⟩, S)
  | some q =>
    if o.kind = 2 then (⟨0, 0, []⟩, put S i none)
    else if o.kind = 3 then
      if 32 ≤ q.items.length ∨ 1099511627776 ≤ q.first + q.items.length then (⟨3, 0, []⟩, S)
      else (⟨0, q.first + q.items.length, []⟩, put S i (some ⟨q.name, q.first, q.items ++ [o.text], q.groups⟩))
    else if o.kind = 4 then
      if min o.num.toNat (q.first + q.items.length) ≤ q.first then (⟨0, 0, []⟩, S)
      else (⟨0, min o.num.toNat (q.first + q.items.length) - q.first, []⟩,
        put S i (some ⟨q.name, min o.num.toNat (q.first + q.items.length), q.items.drop (min o.num.toNat (q.first + q.items.length) - q.first), q.groups.map fun p => (p.1, max p.2 (min o.num.toNat (q.first + q.items.length)))⟩))
    else if o.kind = 5 then
      match grp q.groups o.text with
      | some x => if x = q.first + q.items.length then (⟨4, 0, []⟩, S)
        else (⟨0, x, [q.items.getD (x - q.first) ByteArray.empty]⟩, put S i (some ⟨q.name, q.first, q.items, upd q.groups o.text (x + 1)⟩))
      | none => if 4 ≤ q.groups.length then (⟨3, 0, []⟩, S) else if q.items.length = 0 then (⟨4, 0, []⟩, S)
        else (⟨0, q.first, [q.items.getD 0 ByteArray.empty]⟩, put S i (some ⟨q.name, q.first, q.items, upd q.groups o.text (q.first + 1)⟩))
    else if o.kind = 6 then
      if q.first + q.items.length ≤ max o.num.toNat q.first then (⟨0, o.num.toNat, []⟩, S)
      else (⟨0, max o.num.toNat q.first, (q.items.drop (max o.num.toNat q.first - q.first)).take o.most.toNat⟩, S)
    else (⟨0, q.items.length, []⟩, S)

/-- What is so of every shelf. -/
structure GoodS (S : Nat → Option Qu) : Prop where
  each : ∀ k, k < 8 → ∀ q, S k = some q → QuOK q
  names : ∀ i j, i < 8 → j < 8 → ∀ q r, S i = some q → S j = some r → q.name = r.name → i = j

theorem GoodS.nodup {S : Nat → Option Qu} (h : GoodS S) : ((queuesUp S 8).map (·.name)).Nodup := by
  rw [List.nodup_iff_pairwise_ne, List.pairwise_map, queuesUp, List.pairwise_filterMap]
  have h0 : (List.range 8).Pairwise (fun a b => a ≠ b) := List.nodup_iff_pairwise_ne.1 List.nodup_range
  refine List.Pairwise.imp_of_mem ?_ h0
  intro a b ha hb hab q hq r hr e
  exact hab (h.names a b (by simpa using ha) (by simpa using hb) q r hq hr e)
theorem GoodS.glen {S : Nat → Option Qu} (h : GoodS S) : ∀ k, k < 8 → ∀ q, S k = some q → q.groups.length ≤ 12 ∧ q.items.length ≤ 2000000000000 := fun k hk q hq => by
  have := (h.each k hk q hq).glen
  have := (h.each k hk q hq).len
  omega

theorem grp_mem {m : List (ByteArray × Nat)} {t : ByteArray} {x : Nat} (h : grp m t = some x) : (t, x) ∈ m := by
  rw [grp, Option.map_eq_some_iff] at h
  obtain ⟨p, hp, rfl⟩ := h
  have h1 := List.find?_some hp
  have h2 := List.mem_of_find?_eq_some hp
  have h3 : p.1 = t := (MapKept.bytes_beq p.1 t).1 h1
  subst h3; exact h2
theorem grp_none {m : List (ByteArray × Nat)} {t : ByteArray} (h : grp m t = none) : t ∉ m.map (·.1) := by
  rw [grp, Option.map_eq_none_iff, List.find?_eq_none] at h
  intro hm
  obtain ⟨p, hp, rfl⟩ := List.mem_map.1 hm
  exact h p hp (bbeq_self _)

theorem upd_nodup (m : List (ByteArray × Nat)) (t : ByteArray) (v : Nat) (h : (m.map (·.1)).Nodup) : ((upd m t v).map (·.1)).Nodup := by
  unfold upd
  split
  · have e : (m.map (fun p => if p.1 = t then (t, v) else p)).map (·.1) = m.map (·.1) := by
      rw [List.map_map]
      refine List.map_congr_left (fun p _ => ?_)
      simp only [Function.comp]
      split
      · rename_i h; exact h.symm
      · rfl
    rw [e]; exact h
  · rename_i hn
    rw [List.map_append, List.nodup_append]
    exact ⟨h, by simp, fun x hx y hy => by simp at hy; subst hy; rintro rfl; exact hn hx⟩
theorem upd_mem {m : List (ByteArray × Nat)} {t : ByteArray} {v : Nat} {p : ByteArray × Nat} (h : p ∈ upd m t v) : p = (t, v) ∨ p ∈ m := by
  unfold upd at h
  split at h
  · obtain ⟨p', h1, rfl⟩ := List.mem_map.1 h
    split
    · exact .inl rfl
    · exact .inr h1
  · rcases List.mem_append.1 h with h | h
    · exact .inr h
    · exact .inl (by simpa using h)
theorem upd_length_in {m : List (ByteArray × Nat)} {t : ByteArray} {v : Nat} (h : t ∈ m.map (·.1)) : (upd m t v).length = m.length := by simp [upd, h]
theorem upd_length_out {m : List (ByteArray × Nat)} {t : ByteArray} {v : Nat} (h : t ∉ m.map (·.1)) : (upd m t v).length = m.length + 1 := by simp [upd, h]

theorem GoodS.put {S : Nat → Option Qu} (h : GoodS S) (i : Nat) (q : Option Qu) (hq : ∀ q', q = some q' → QuOK q') (hn : ∀ q', q = some q' → ∀ j, j < 8 → j ≠ i → ∀ r, S j = some r → r.name ≠ q'.name) : GoodS (put S i q) := by
  refine ⟨fun k hk q' hq' => ?_, fun a b ha hb qa qb h1 h2 he => ?_⟩
  · unfold Proofs.Ytfahakmnlmlgcaa.put at hq'
    split at hq'
    · exact hq q' hq'
    · exact h.each k hk q' hq'
  · unfold Proofs.Ytfahakmnlmlgcaa.put at h1 h2
    by_cases hai : a = i <;> by_cases hbi : b = i
    · omega
    · rw [if_pos hai] at h1; rw [if_neg hbi] at h2
      exact absurd he.symm (hn qa h1 b hb hbi qb h2)
    · rw [if_neg hai] at h1; rw [if_pos hbi] at h2
      exact absurd he (hn qb h2 a ha hai qa h1)
    · rw [if_neg hai] at h1; rw [if_neg hbi] at h2
      exact h.names a b ha hb qa qb h1 h2 he
/-- A queue in its slot, changed but for its name. -/
theorem GoodS.set {S : Nat → Option Qu} (h : GoodS S) {i : Nat} (hi : i < 8) {q q' : Qu} (hq : S i = some q) (he : q'.name = q.name) (ok : QuOK q') : GoodS (Proofs.Ytfahakmnlmlgcaa.put S i (some q')) :=
  h.put i (some q') (fun q2 e => by cases e; exact ok) (fun q2 e j hj hji r hr hn => by
    cases e
    exact hji (h.names j i hj hi r q hr hq (by rw [hn, he])))
end Go.Proofs.Ytfahakmnlmlgcaa
