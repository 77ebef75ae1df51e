/-
  The plain law of ShelfKeeps: what is so of a shelf, of what was pushed and of what was taken, stays so.
-/
import Derived.Test.YtfahakmnlmlgcaaDoS
namespace Go.Proofs.Ytfahakmnlmlgcaa
open Go.RowKit Go.Lib
set_option linter.unusedVariables false
set_option linter.unusedSimpArgs false

def bQ : ByteArray := ⟨#[113]⟩

/-- What took lays down. -/
def tookS (l : List (ByteArray × Int)) (who : ByteArray) (idx : Int) : List (ByteArray × Int) :=
  l.map (fun p => if p.1 = who then (p.1, idx) else p) ++ (if l.any (fun p => decide (p.1 = who)) then [] else [(who, idx)])

theorem tookS_mem {l : List (ByteArray × Int)} {who : ByteArray} {idx : Int} {p : ByteArray × Int} (h : p ∈ tookS l who idx) : p = (who, idx) ∨ (p ∈ l ∧ p.1 ≠ who) := by
  rcases List.mem_append.1 h with h | h
  · obtain ⟨p', h1, rfl⟩ := List.mem_map.1 h
    split
    · rename_i e; exact .inl (by rw [e])
    · rename_i e; exact .inr ⟨h1, e⟩
  · split at h
    · cases h
    · exact .inl (by simpa using h)
theorem tookS_length (l : List (ByteArray × Int)) (who : ByteArray) (idx : Int) : (tookS l who idx).length ≤ l.length + 1 := by
  unfold tookS
  rw [List.length_append, List.length_map]
  split <;> simp

theorem find_map_fst {β : Type} (m : List (ByteArray × β)) (f : ByteArray × β → β) (t : ByteArray) : (m.map (fun p => (p.1, f p))).find? (fun p => p.1 == t) = (m.find? (fun p => p.1 == t)).map (fun p => (p.1, f p)) := by
  induction m with
  | nil => rfl
  | cons p m ih =>
    simp only [List.map_cons, List.find?_cons]
    cases hp : (p.1 == t) <;> simp [ih]

theorem grp_max (m : List (ByteArray × Nat)) (k : Nat) (t : ByteArray) : grp (m.map fun p => (p.1, max p.2 k)) t = (grp m t).map (fun x => max x k) := by
  unfold grp
  rw [find_map_fst m (fun p => max p.2 k) t]
  simp [Function.comp_def]

theorem grp_upd_same (m : List (ByteArray × Nat)) (t : ByteArray) (v : Nat) : grp (upd m t v) t = some v := by
  unfold upd grp
  split
  · rename_i hm
    induction m with
    | nil => simp at hm
    | cons p m ih =>
      simp only [List.map_cons, List.find?_cons]
      by_cases hp : p.1 = t
      · simp [hp, bbeq_self]
      · rw [if_neg hp]
        simp only [bbeq_ne hp]
        simp only [List.map_cons, List.mem_cons] at hm
        rcases hm with hm | hm
        · exact absurd hm.symm hp
        · exact ih hm
  · rename_i hm
    rw [List.find?_append]
    have : m.find? (fun p => p.1 == t) = none := by
      rw [List.find?_eq_none]
      intro p hp
      have : ¬ p.1 = t := fun e => hm (e ▸ List.mem_map_of_mem hp)
      simp [bbeq_ne this]
    simp [this, bbeq_self]

theorem grp_upd_other (m : List (ByteArray × Nat)) (t t' : ByteArray) (v : Nat) (h : t' ≠ t) : grp (upd m t v) t' = grp m t' := by
  unfold upd grp
  split
  · congr 1
    induction m with
    | nil => rfl
    | cons p m ih =>
      simp only [List.map_cons, List.find?_cons]
      by_cases hp : p.1 = t
      · have h1 : ¬ t = t' := fun e => h e.symm
        have h2 : ¬ p.1 = t' := fun e => h (by rw [← e, hp])
        simp only [if_pos hp, bbeq_ne h1, bbeq_ne h2]
        by_cases hm : t ∈ m.map (·.1)
        · exact ih hm
        · congr 1
          have : m.map (fun p => if p.1 = t then (t, v) else p) = m := by
            conv => rhs; rw [← List.map_id m]
            refine List.map_congr_left (fun p hp => ?_)
            rw [if_neg (fun (e : p.1 = t) => hm (e ▸ List.mem_map_of_mem hp))]; rfl
          rw [this]
      · rw [if_neg hp]
        by_cases hp' : p.1 = t'
        · simp [hp', bbeq_self]
        · simp only [bbeq_ne hp']
          rename_i hm
          simp only [List.map_cons, List.mem_cons] at hm
          rcases hm with hm | hm
          · exact absurd hm.symm hp
          · exact ih hm
  · congr 1
    rw [List.find?_append]
    have : ¬ t = t' := fun e => h e.symm
    simp [bbeq_ne this]

/-- What is so, op by op. -/
structure KInv (S : Nat → Option Qu) (pushed : List ByteArray) (gs : List (ByteArray × Int)) : Prop where
  good : GoodS S
  slot : ∃ i q, i < 8 ∧ S i = some q ∧ q.name = bQ ∧ q.first + q.items.length = pushed.length ∧ q.items = pushed.drop q.first ∧ ∀ p ∈ gs, ∃ x : Nat, grp q.groups p.1 = some x ∧ p.2 < (x : Int)

/-- The items of a result are what was pushed with its index, and those behind it. -/
def ToldP (pushed items : List ByteArray) (num : Nat) : Prop := items = [] ∨ (num + items.length ≤ pushed.length ∧ (pushed.drop num).take items.length = items)

theorem act_other (S : Nat → Option Qu) (i j : Nat) (o : OpS) (h : j ≠ i) : (act S i o).2 j = S j := by
  unfold act
  split
  · exact put_other _ _ _ _ h
  split
  · rfl
  split
  · rfl
  all_goals (repeat' split) <;> first | rfl | exact put_other _ _ _ _ h

theorem firstK_name {S : Nat → Option Qu} (hG : GoodS S) {i : Nat} {q : Qu} (hi : i < 8) (hq : S i = some q) : firstK (isQ S q.name) = some i := by
  refine firstK_some hi (by rw [isQ, hq]; exact bbeq_self _) (fun j hj => ?_)
  unfold isQ
  cases hr : S j with
  | none => rfl
  | some r =>
    refine bbeq_ne (fun e => ?_)
    have := hG.names j i (by omega) hi r q hr hq e
    omega

/-- Another name's op, or one that is refused: nothing of the queue changes. -/
theorem keeps_other {S : Nat → Option Qu} {pushed : List ByteArray} {gs : List (ByteArray × Int)} (h : KInv S pushed gs) (o : OpS) (hn : o.name ≠ bQ ∨ checkS o ≠ 0 ∨ o.kind = 1 ∨ o.kind = 8) : KInv (doS S o).S pushed gs := by
  obtain ⟨i, q, hi, hq, hqn, rest⟩ := h.slot
  refine ⟨doS_good h.good o, i, q, hi, ?_, hqn, rest⟩
  rw [← hq]
  unfold doS
  by_cases hc : checkS o ≠ 0
  · rw [if_pos hc]
  rw [if_neg hc]
  by_cases k8 : o.kind = 8
  · rw [if_pos k8]
  rw [if_neg k8]
  cases hf : firstK (isQ S o.name) with
  | some j =>
    simp only
    by_cases k1 : o.kind = 1
    · rw [if_pos k1]
    · rw [if_neg k1]
      have hn' : o.name ≠ bQ := by
        rcases hn with hn | hn | hn | hn
        · exact hn
        · exact absurd hn hc
        · exact absurd hn k1
        · exact absurd hn k8
      obtain ⟨hj, hjq, _⟩ := firstK_spec hf
      obtain ⟨r, hr, hrn⟩ := isQ_some hjq
      refine act_other S j i o (fun e => ?_)
      subst e
      rw [hq] at hr
      cases hr
      exact hn' (by rw [← hrn, hqn])
  | none =>
    simp only
    by_cases k1 : o.kind = 1
    · rw [if_pos k1]
      cases hr : firstK (isFree S) with
      | none => rfl
      | some j =>
        obtain ⟨hj, hjf, _⟩ := firstK_spec hr
        refine act_other S j i o (fun e => ?_)
        subst e
        rw [isFree, hq] at hjf; cases hjf
    · rw [if_neg k1]

/-- Of an op on the queue that has been done: what its answer is, and what stays so. -/
theorem keeps_own {S : Nat → Option Qu} {pushed : List ByteArray} {gs : List (ByteArray × Int)} (h : KInv S pushed gs) (o : OpS) (hn : o.name = bQ) (hc : checkS o = 0) (hr : (doS S o).r.code = 0) :
    (o.kind = 3 → (doS S o).r.num = pushed.length ∧ KInv (doS S o).S (pushed ++ [o.text]) gs) ∧
    (o.kind = 4 → KInv (doS S o).S pushed gs) ∧
    (o.kind = 5 → (doS S o).r.items.length = 1 ∧ ToldP pushed (doS S o).r.items (doS S o).r.num ∧ (∀ p ∈ gs, p.1 = o.text → p.2 < ((doS S o).r.num : Int)) ∧ KInv (doS S o).S pushed (tookS gs o.text (doS S o).r.num)) ∧
    (o.kind = 6 → (((doS S o).r.items.length : Nat) : Int) ≤ o.most ∧ (0 < (doS S o).r.items.length → o.num ≤ ((doS S o).r.num : Int)) ∧ ToldP pushed (doS S o).r.items (doS S o).r.num ∧ KInv (doS S o).S pushed gs) ∧
    (o.kind = 7 → (doS S o).r.num ≤ pushed.length ∧ (doS S o).r.num ≤ 32 ∧ KInv (doS S o).S pushed gs) := by
  obtain ⟨i, q, hi, hq, hqn, hlen, hit, hgs⟩ := h.slot
  have ok := checkS_ok hc
  have Q := h.good.each i hi q hq
  have hfin := Q.fin
  have hl32 := Q.len
  have hf : firstK (isQ S o.name) = some i := by rw [hn, ← hqn]; exact firstK_name h.good hi hq
  have hgd := doS_good h.good o
  have hd : o.kind ≠ 1 → o.kind ≠ 8 → (doS S o).r = (act S i o).1 ∧ (doS S o).S = (act S i o).2 := by
    intro k1 k8
    rw [doS, if_neg (by simpa using hc), if_neg k8, hf]
    simp only
    rw [if_neg k1]
    exact ⟨rfl, rfl⟩
  refine ⟨fun k => ?_, fun k => ?_, fun k => ?_, fun k => ?_, fun k => ?_⟩
  · obtain ⟨e1, e2⟩ := hd (by omega) (by omega)
    rw [e1] at hr ⊢
    rw [e2] at hgd ⊢
    unfold act at hr hgd ⊢
    rw [if_neg (by omega), if_neg (by omega), hq] at hr hgd ⊢
    simp only at hr hgd ⊢
    rw [if_neg (by omega), if_pos k] at hr hgd ⊢
    split at hr
    · cases hr
    · rename_i hroom
      rw [if_neg hroom] at hgd ⊢
      refine ⟨hlen, hgd, i, _, hi, put_same _ _ _, hqn, ?_, ?_, hgs⟩
      · simp; omega
      · simp only
        rw [List.drop_append_of_le_length (by omega), ← hit]
  · obtain ⟨e1, e2⟩ := hd (by omega) (by omega)
    rw [e2] at hgd ⊢
    unfold act at hgd ⊢
    rw [if_neg (by omega), if_neg (by omega), hq] at hgd ⊢
    simp only at hgd ⊢
    rw [if_neg (by omega), if_neg (by omega), if_pos k] at hgd ⊢
    split at hgd
    · rename_i hle
      rw [if_pos hle]
      exact ⟨h.good, i, q, hi, hq, hqn, hlen, hit, hgs⟩
    · rename_i hle
      rw [if_neg hle]
      obtain ⟨d, hdd⟩ : ∃ d, min o.num.toNat (q.first + q.items.length) = q.first + d := ⟨min o.num.toNat (q.first + q.items.length) - q.first, by omega⟩
      rw [hdd, Nat.add_sub_cancel_left] at hgd ⊢
      refine ⟨hgd, i, _, hi, put_same _ _ _, hqn, ?_, ?_, fun p hp => ?_⟩
      · simp only [List.length_drop]; omega
      · simp only; rw [hit, List.drop_drop]
      · obtain ⟨x, hx, hlt⟩ := hgs p hp
        refine ⟨max x (q.first + d), by rw [grp_max, hx]; rfl, ?_⟩
        have : x ≤ max x (q.first + d) := Nat.le_max_left _ _
        omega
  · obtain ⟨e1, e2⟩ := hd (by omega) (by omega)
    rw [e1] at hr ⊢
    rw [e2] at hgd ⊢
    -- what is taken
    have key : ∀ j, j < q.items.length → ToldP pushed [q.items.getD j ByteArray.empty] (q.first + j) := by
      intro j hj
      refine .inr ⟨by simp only [List.length_singleton]; omega, ?_⟩
      have hj' : q.first + j < pushed.length := by omega
      have : (pushed.drop (q.first + j)).take 1 = [pushed[q.first + j]] := by
        rw [List.drop_eq_getElem_cons hj']; rfl
      simp only [List.length_singleton, this]
      have e : q.items.getD j ByteArray.empty = pushed[q.first + j] := by
        have h9 : q.items[j]? = pushed[q.first + j]? := by rw [hit, List.getElem?_drop]
        simp [List.getD, h9, hj']
      rw [e]
    have inv : ∀ x : Nat, GoodS (put S i (some ⟨q.name, q.first, q.items, upd q.groups o.text (x + 1)⟩)) → KInv (put S i (some ⟨q.name, q.first, q.items, upd q.groups o.text (x + 1)⟩)) pushed (tookS gs o.text x) := by
      intro x hg
      refine ⟨hg, i, _, hi, put_same _ _ _, hqn, hlen, hit, fun p hp => ?_⟩
      rcases tookS_mem hp with rfl | ⟨hp, hne⟩
      · exact ⟨x + 1, grp_upd_same _ _ _, by simp only; omega⟩
      · obtain ⟨y, hy, hlt⟩ := hgs p hp
        exact ⟨y, by rw [grp_upd_other _ _ _ _ hne]; exact hy, hlt⟩
    unfold act at hr hgd ⊢
    rw [if_neg (by omega), if_neg (by omega), hq] at hr hgd ⊢
    simp only at hr hgd ⊢
    rw [if_neg (by omega), if_neg (by omega), if_neg (by omega), if_pos k] at hr hgd ⊢
    cases hx : grp q.groups o.text with
    | some x =>
      rw [hx] at hr hgd
      simp only at hr hgd ⊢
      have hm := Q.groups _ (grp_mem hx)
      simp only at hm
      split at hr
      · cases hr
      · rename_i hne
        rw [if_neg hne] at hgd ⊢
        obtain ⟨j, rfl⟩ : ∃ j, x = q.first + j := ⟨x - q.first, by omega⟩
        have e : q.first + j - q.first = j := by omega
        refine ⟨rfl, ?_, fun p hp hpn => ?_, inv _ hgd⟩
        · simp only [e]; exact key j (by omega)
        · obtain ⟨y, hy, hlt⟩ := hgs p hp
          rw [hpn, hx] at hy
          cases hy
          exact hlt
    | none =>
      rw [hx] at hr hgd
      simp only at hr hgd ⊢
      split at hr
      · cases hr
      · rename_i h4
        rw [if_neg h4] at hgd ⊢
        split at hr
        · cases hr
        · rename_i h0
          rw [if_neg h0] at hgd ⊢
          refine ⟨rfl, by have := key 0 (by omega); rwa [Nat.add_zero] at this, fun p hp hpn => ?_, inv _ hgd⟩
          obtain ⟨y, hy, hlt⟩ := hgs p hp
          rw [hpn, hx] at hy; cases hy
  · obtain ⟨e1, e2⟩ := hd (by omega) (by omega)
    rw [e1] at hr ⊢
    rw [e2] at hgd ⊢
    have hm := ok.most k
    have hnum := ok.num (.inr k)
    unfold act at hr hgd ⊢
    rw [if_neg (by omega), if_neg (by omega), hq] at hr hgd ⊢
    simp only at hr hgd ⊢
    rw [if_neg (by omega), if_neg (by omega), if_neg (by omega), if_neg (by omega), if_pos k] at hr hgd ⊢
    have inv : KInv S pushed gs := h
    split
    · exact ⟨by simp; omega, by simp, .inl rfl, inv⟩
    · rename_i hlt
      refine ⟨?_, fun _ => ?_, .inr ⟨?_, ?_⟩, inv⟩
      · simp only [List.length_take, List.length_drop]; omega
      · simp only; omega
      · simp only [List.length_take, List.length_drop]; omega
      · simp only
        rw [hit, List.drop_drop]
        have e : q.first + (max o.num.toNat q.first - q.first) = max o.num.toNat q.first := by omega
        rw [e, List.length_take, ← List.take_take, List.take_length]
  · obtain ⟨e1, e2⟩ := hd (by omega) (by omega)
    rw [e1] at hr ⊢
    rw [e2] at hgd ⊢
    unfold act at hr hgd ⊢
    rw [if_neg (by omega), if_neg (by omega), hq] at hr hgd ⊢
    simp only at hr hgd ⊢
    rw [if_neg (by omega), if_neg (by omega), if_neg (by omega), if_neg (by omega), if_neg (by omega)] at hr hgd ⊢
    exact ⟨by simp only; omega, by simp only; omega, h⟩

theorem doS_e (S : Nat → Option Qu) (o : OpS) : (doS S o).e = checkS o := by
  unfold doS
  by_cases hc : checkS o ≠ 0
  · rw [if_pos hc]
  rw [if_neg hc]
  have h0 : checkS o = 0 := Decidable.not_not.1 hc
  by_cases k8 : o.kind = 8
  · rw [if_pos k8]; exact h0.symm
  rw [if_neg k8]
  cases firstK (isQ S o.name) with
  | some i =>
    simp only
    split <;> exact h0.symm
  | none =>
    simp only
    split
    · cases firstK (isFree S) <;> exact h0.symm
    · exact h0.symm

theorem act_idle (S : Nat → Option Qu) (i : Nat) (o : OpS) (h : (act S i o).1.code ≠ 0) : (act S i o).2 = S := by
  unfold act at h ⊢
  by_cases k1 : o.kind = 1
  · rw [if_pos k1] at h; exact absurd rfl h
  rw [if_neg k1] at h ⊢
  by_cases k8 : o.kind = 8
  · rw [if_pos k8]
  rw [if_neg k8] at h ⊢
  cases hq : S i with
  | none => rfl
  | some q =>
    rw [hq] at h
    simp only at h ⊢
    by_cases k2 : o.kind = 2
    · rw [if_pos k2] at h; exact absurd rfl h
    rw [if_neg k2] at h ⊢
    by_cases k3 : o.kind = 3
    · rw [if_pos k3] at h ⊢
      split at h
      · rename_i hc; rw [if_pos hc]
      · exact absurd rfl h
    rw [if_neg k3] at h ⊢
    by_cases k4 : o.kind = 4
    · rw [if_pos k4] at h ⊢
      split at h
      · exact absurd rfl h
      · exact absurd rfl h
    rw [if_neg k4] at h ⊢
    by_cases k5 : o.kind = 5
    · rw [if_pos k5] at h ⊢
      cases hx : grp q.groups o.text with
      | some x =>
        rw [hx] at h
        simp only at h ⊢
        split at h
        · rename_i hc; rw [if_pos hc]
        · exact absurd rfl h
      | none =>
        rw [hx] at h
        simp only at h ⊢
        split at h
        · rename_i hc; rw [if_pos hc]
        · rename_i hc
          rw [if_neg hc]
          split at h
          · rename_i hc; rw [if_pos hc]
          · exact absurd rfl h
    rw [if_neg k5] at h ⊢
    by_cases k6 : o.kind = 6
    · rw [if_pos k6] at h ⊢
      split at h
      · exact absurd rfl h
      · exact absurd rfl h
    rw [if_neg k6] at h ⊢

theorem doS_idle (S : Nat → Option Qu) (o : OpS) (h : (doS S o).r.code ≠ 0) : (doS S o).S = S := by
  unfold doS at h ⊢
  by_cases hc : checkS o ≠ 0
  · rw [if_pos hc]
  rw [if_neg hc] at h ⊢
  by_cases k8 : o.kind = 8
  · rw [if_pos k8]
  rw [if_neg k8] at h ⊢
  cases hf : firstK (isQ S o.name) with
  | some i =>
    rw [hf] at h
    simp only at h ⊢
    by_cases k1 : o.kind = 1
    · rw [if_pos k1]
    · rw [if_neg k1] at h ⊢
      exact act_idle S i o h
  | none =>
    rw [hf] at h
    simp only at h ⊢
    by_cases k1 : o.kind = 1
    · rw [if_pos k1] at h ⊢
      cases hr : firstK (isFree S) with
      | some i =>
        rw [hr] at h
        exact act_idle S i o h
      | none => rfl
    · rw [if_neg k1]

/-- All that is wanted of an answer. -/
structure KOut (o : OpS) (a : Ans) (pushed : List ByteArray) (gs : List (ByteArray × Int)) : Prop where
  other : (o.name ≠ bQ ∨ a.e ≠ 0 ∨ a.r.code ≠ 0 ∨ o.kind = 1 ∨ o.kind = 8) → KInv a.S pushed gs
  push : o.name = bQ → a.e = 0 → a.r.code = 0 → o.kind = 3 → a.r.num = pushed.length ∧ KInv a.S (pushed ++ [o.text]) gs
  trim : o.name = bQ → a.e = 0 → a.r.code = 0 → o.kind = 4 → KInv a.S pushed gs
  take : o.name = bQ → a.e = 0 → a.r.code = 0 → o.kind = 5 → a.r.items.length = 1 ∧ ToldP pushed a.r.items a.r.num ∧ (∀ p ∈ gs, p.1 = o.text → p.2 < (a.r.num : Int)) ∧ KInv a.S pushed (tookS gs o.text a.r.num)
  read : o.name = bQ → a.e = 0 → a.r.code = 0 → o.kind = 6 → ((a.r.items.length : Nat) : Int) ≤ o.most ∧ (0 < a.r.items.length → o.num ≤ (a.r.num : Int)) ∧ ToldP pushed a.r.items a.r.num ∧ KInv a.S pushed gs
  count : o.name = bQ → a.e = 0 → a.r.code = 0 → o.kind = 7 → a.r.num ≤ pushed.length ∧ a.r.num ≤ 32 ∧ KInv a.S pushed gs
  kind : a.e = 0 → 1 ≤ o.kind ∧ o.kind ≤ 8

theorem keeps_all {S : Nat → Option Qu} {pushed : List ByteArray} {gs : List (ByteArray × Int)} (h : KInv S pushed gs) (o : OpS) : KOut o (doS S o) pushed gs := by
  have he := doS_e S o
  refine ⟨fun ho => ?_, fun hn h0 hr k => ?_, fun hn h0 hr k => ?_, fun hn h0 hr k => ?_, fun hn h0 hr k => ?_, fun hn h0 hr k => ?_, fun h0 => ?_⟩
  · by_cases hr : (doS S o).r.code ≠ 0
    · rw [doS_idle S o hr]; exact h
    · exact keeps_other h o (by rw [he] at ho; rcases ho with h1 | h1 | h1 | h1 | h1 <;> simp_all)
  · exact (keeps_own h o hn (he ▸ h0) hr).1 k
  · exact (keeps_own h o hn (he ▸ h0) hr).2.1 k
  · exact (keeps_own h o hn (he ▸ h0) hr).2.2.1 k
  · exact (keeps_own h o hn (he ▸ h0) hr).2.2.2.1 k
  · exact (keeps_own h o hn (he ▸ h0) hr).2.2.2.2 k
  · exact (checkS_ok (he ▸ h0)).kind
end Go.Proofs.Ytfahakmnlmlgcaa
