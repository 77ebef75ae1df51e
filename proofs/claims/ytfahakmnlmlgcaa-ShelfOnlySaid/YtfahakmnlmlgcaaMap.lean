/-
  Maps told as lists of pairs: what a look-up, a store, a range over one comes to. No program in sight.
-/
import Derived.Test.YtfahakmnlmlgcaaBase
import Derived.Maps.RangeWalk
import Derived.Maps.OwnSet
namespace Go.Proofs.Ytfahakmnlmlgcaa
open Go.RowKit Go.Lib
open Go.Maps (Keyed)
set_option linter.unusedVariables false
set_option linter.unusedSimpArgs false

section
variable {α β : Type} (kf : α → Value) (vf : β → Value)

/-- The entries of a map: pairs, each with its stamp. -/
def ents (m : List (α × β)) (s : List Nat) : List MapEntry := (m.zip s).map fun x => ⟨kf x.1.1, vf x.1.2, x.2⟩

/-- Block b is a map that holds the pairs m, each key once. -/
def MapAt (w : World) (b : Nat) (m : List (α × β)) : Prop :=
  ∃ s clock, w.heap[b]? = some (.map (ents kf vf m s).toArray clock) ∧ s.length = m.length ∧ s.Pairwise (· < ·) ∧ (∀ t ∈ s, t < clock) ∧ (m.map (·.1)).Nodup

/-- Block it goes over the map at block b; the places in done have been. -/
def IterAt (w : World) (it b : Nat) (m : List (α × β)) (done : List Nat) : Prop :=
  ∃ s clock, w.heap[b]? = some (.map (ents kf vf m s).toArray clock) ∧ s.length = m.length ∧ s.Pairwise (· < ·) ∧ (∀ t ∈ s, t < clock) ∧ (m.map (·.1)).Nodup ∧
    w.heap[it]? = some (.mapIter (some b) clock (done.map (s.getD · 0)).toArray clock) ∧ done.Nodup ∧ ∀ i ∈ done, i < m.length

variable {kf vf}
theorem ents_length (m : List (α × β)) (s : List Nat) (h : s.length = m.length) : (ents kf vf m s).length = m.length := by simp [ents, h]
theorem ents_get (m : List (α × β)) (s : List Nat) (h : s.length = m.length) (i : Nat) (hi : i < m.length) : (ents kf vf m s)[i]? = some ⟨kf m[i].1, vf m[i].2, s[i]'(by omega)⟩ := by
  simp [ents, hi, h]

/-- What the model does with keys of this make. -/
structure KeyFn (P : Program) (k : TypeId) (kf : α → Value) : Prop where
  check : ∀ (w : World) (em : Bool) (a : α), (Instr.checkKey em 10000 k (kf a)).run P w = .ok () w
  find : ∀ (w : World) (a : α) (es : List MapEntry) (as : List α), es.map (·.key) = as.map kf →
    ((Instr.findKey k (kf a) es).run P w = .ok none w ∧ a ∉ as) ∨ ∃ j, ∃ e, (Instr.findKey k (kf a) es).run P w = .ok (some (j, e.val)) w ∧ es[j]? = some e ∧ as[j]? = some a
  stays : ∀ (w : World) (a : α), (Instr.keyThatStays (kf a) (kf a)).run P w = .ok (kf a) w

theorem MapAt.made (w : World) : MapAt kf vf (w.alloc (.map #[] 0)) w.heap.size [] :=
  ⟨[], 0, by rw [heap_alloc_new]; simp [ents], rfl, List.Pairwise.nil, by simp, by simp⟩
theorem MapAt.lt {w : World} {b : Nat} {m : List (α × β)} (h : MapAt kf vf w b m) : b < w.heap.size := let ⟨_, _, h, _⟩ := h; lt_of_heap h
theorem MapAt.same {w w' : World} {b : Nat} {m : List (α × β)} (h : MapAt kf vf w b m) (e : w'.heap[b]? = w.heap[b]?) : MapAt kf vf w' b m := let ⟨s, c, h, r⟩ := h; ⟨s, c, e.trans h, r⟩
theorem MapAt.keep {M : Nat → Prop} {w w' : World} {b : Nat} {m : List (α × β)} (h : MapAt kf vf w b m) (k : Keep M w w') (hm : ¬ M b) : MapAt kf vf w' b m := h.same (k.block b h.lt hm)
theorem MapAt.nodup {w : World} {b : Nat} {m : List (α × β)} (h : MapAt kf vf w b m) : (m.map (·.1)).Nodup := let ⟨_, _, _, _, _, _, h⟩ := h; h
theorem IterAt.map {w : World} {it b : Nat} {m : List (α × β)} {done : List Nat} (h : IterAt kf vf w it b m done) : MapAt kf vf w b m := let ⟨s, c, h1, h2, h3, h4, h5, _⟩ := h; ⟨s, c, h1, h2, h3, h4, h5⟩
theorem IterAt.lt {w : World} {it b : Nat} {m : List (α × β)} {done : List Nat} (h : IterAt kf vf w it b m done) : it < w.heap.size := let ⟨_, _, _, _, _, _, _, h, _⟩ := h; lt_of_heap h
theorem IterAt.ne {w : World} {it b : Nat} {m : List (α × β)} {done : List Nat} (h : IterAt kf vf w it b m done) : it ≠ b := by
  obtain ⟨s, c, h1, _, _, _, _, h2, _⟩ := h
  rintro rfl
  rw [h1] at h2; cases h2
theorem IterAt.keep {M : Nat → Prop} {w w' : World} {it b : Nat} {m : List (α × β)} {done : List Nat} (h : IterAt kf vf w it b m done) (k : Keep M w w') (hm : ¬ M b) (hi : ¬ M it) : IterAt kf vf w' it b m done := by
  obtain ⟨s, c, h1, h2, h3, h4, h5, h6, h7⟩ := h
  exact ⟨s, c, k.heap h1 hm, h2, h3, h4, h5, k.heap h6 hi, h7⟩
theorem IterAt.nodup {w : World} {it b : Nat} {m : List (α × β)} {done : List Nat} (h : IterAt kf vf w it b m done) : done.Nodup ∧ ∀ i ∈ done, i < m.length := let ⟨_, _, _, _, _, _, _, _, h⟩ := h; h

/-- The pairs, with one more, or another value of one. -/
def upd [DecidableEq α] (m : List (α × β)) (a : α) (v : β) : List (α × β) := if a ∈ m.map (·.1) then m.map (fun p => if p.1 = a then (a, v) else p) else m ++ [(a, v)]

variable {P : Program} {w : World} {k e t : TypeId}

/-- Where a key stands. -/
theorem find_ents (K : KeyFn P k kf) {m : List (α × β)} {s : List Nat} (hl : s.length = m.length) (a : α) :
    ((Instr.findKey k (kf a) (ents kf vf m s)).run P w = .ok none w ∧ a ∉ m.map (·.1)) ∨
    ∃ i, ∃ hi : i < m.length, (Instr.findKey k (kf a) (ents kf vf m s)).run P w = .ok (some (i, vf m[i].2)) w ∧ m[i].1 = a := by
  have hks : (ents kf vf m s).map (·.key) = (m.map (·.1)).map kf := by
    apply List.ext_getElem?
    intro j
    by_cases hj : j < m.length
    · simp [ents_get m s hl j hj, hj]
    · rw [List.getElem?_eq_none (by simp [ents]; omega), List.getElem?_eq_none (by simp; omega)]
  rcases K.find w a (ents kf vf m s) (m.map (·.1)) hks with ⟨h1, h2⟩ | ⟨j, x, h1, h2, h3⟩
  · exact .inl ⟨h1, h2⟩
  · have hj : j < m.length := by
      have := (List.getElem?_eq_some_iff.1 h2).1
      rwa [ents_length m s hl] at this
    rw [ents_get m s hl j hj] at h2
    cases h2
    exact .inr ⟨j, hj, h1, by simpa [hj] using h3⟩

/-- A look-up. -/
theorem MapAt.look {b : Nat} {m : List (α × β)} (h : MapAt kf vf w b m) (K : KeyFn P k kf) (ht : P.underlying t = some (.map k e))
    (z : Value) (hz : (zeroValue e).run P w = .ok z w) (a : α) (ok : Bool) :
    ((Instr.lookup t (.map (some b)) (kf a) ok).run P w = .ok (if ok then .tuple #[z, .bool false] else z) w ∧ a ∉ m.map (·.1)) ∨
    ∃ v, (Instr.lookup t (.map (some b)) (kf a) ok).run P w = .ok (if ok then .tuple #[vf v, .bool true] else vf v) w ∧ (a, v) ∈ m := by
  obtain ⟨s, c, h1, h2, h3, h4, h5⟩ := h
  have hu : ∀ W : World, (underlying t).run P W = .ok (.map k e) W := fun W => run_underlying ht W
  have hg : (getObj b).run P w = .ok (.map (ents kf vf m s).toArray c) w := by simp [getObj, Sem.run, h1]
  rcases find_ents (P := P) (w := w) (vf := vf) K h2 a with ⟨h6, h7⟩ | ⟨i, hi, h6, h7⟩
  · refine .inl ⟨?_, h7⟩
    simp [Instr.lookup, hu, hg, K.check w, h6, hz]
  · refine .inr ⟨m[i].2, ?_, by rw [← h7]; exact List.getElem_mem hi⟩
    simp [Instr.lookup, hu, hg, K.check w, h6]

theorem keep_setObj {g : Nat} {o : Obj} : Keep (fun x => x = g) w { w with heap := w.heap.setIfInBounds g o } :=
  ⟨rfl, rfl, rfl, by simp, fun x hx hne => by simp [Array.getElem?_setIfInBounds, Ne.symm hne]⟩

theorem getD_lt {s : List Nat} {i j : Nat} (hs : s.Pairwise (· < ·)) (hi : i < s.length) (hj : j < s.length) (h : s.getD i 0 = s.getD j 0) : i = j := by
  simp only [List.getD, List.getElem?_eq_getElem hi, List.getElem?_eq_getElem hj, Option.getD_some] at h
  rcases Nat.lt_trichotomy i j with hij | hij | hij
  · have := List.pairwise_iff_getElem.1 hs i j hi hj hij; omega
  · exact hij
  · have := List.pairwise_iff_getElem.1 hs j i hj hi hij; omega

theorem modify_ents (m : List (α × β)) (s : List Nat) (h : s.length = m.length) (i : Nat) (hi : i < m.length) (a : α) (v : β) :
    (ents kf vf m s).toArray.modify i (fun e => { e with key := kf a, val := vf v }) = (ents kf vf (m.set i (a, v)) s).toArray := by
  apply Array.ext'
  simp only [Array.toList_modify]
  apply List.ext_getElem?
  intro j
  by_cases hj : j < m.length
  · rw [ents_get _ _ (by simpa using h) j (by simpa using hj), List.getElem?_modify, ents_get m s h j hj]
    by_cases hij : i = j
    · subst hij; simp
    · simp [hij, List.getElem_set_ne hij]
  · rw [List.getElem?_eq_none (by simp [ents]; omega), List.getElem?_eq_none (by simp [ents]; omega)]

theorem nodup_inj {γ : Type} {l : List γ} (h : l.Nodup) {i j : Nat} (hi : i < l.length) (hj : j < l.length) (e : l[i] = l[j]) : i = j := by
  rcases Nat.lt_trichotomy i j with hij | hij | hij
  · exact absurd e (List.pairwise_iff_getElem.1 h i j hi hj hij)
  · exact hij
  · exact absurd e.symm (List.pairwise_iff_getElem.1 h j i hj hi hij)

theorem set_upd [DecidableEq α] (m : List (α × β)) (hn : (m.map (·.1)).Nodup) (i : Nat) (hi : i < m.length) (v : β) : m.set i (m[i].1, v) = upd m m[i].1 v := by
  have hmem : m[i].1 ∈ m.map (·.1) := List.mem_map_of_mem (List.getElem_mem hi)
  rw [upd, if_pos hmem]
  apply List.ext_getElem (by simp)
  intro j h1 h2
  simp only [List.getElem_set, List.getElem_map]
  by_cases hij : i = j
  · subst hij; simp
  · rw [if_neg hij, if_neg]
    intro e
    exact hij (nodup_inj hn (by simpa using hi) (by simpa using h1) (by simpa using e.symm))

/-- A store. -/
theorem MapAt.store [DecidableEq α] {b : Nat} {m : List (α × β)} (h : MapAt kf vf w b m) (K : KeyFn P k kf) (ht : P.underlying t = some (.map k e))
    (a : α) (v : β) : ∃ w', (Instr.mapUpdate t (.map (some b)) (kf a) (vf v)).run P w = .ok () w' ∧ MapAt kf vf w' b (upd m a v) ∧ Keep (fun x => x = b) w w' ∧ w'.heap.size = w.heap.size := by
  obtain ⟨s, c, h1, h2, h3, h4, h5⟩ := h
  have hlt := lt_of_heap h1
  have hu : ∀ W : World, (underlying t).run P W = .ok (.map k e) W := fun W => run_underlying ht W
  have hg : (getObj b).run P w = .ok (.map (ents kf vf m s).toArray c) w := by simp [getObj, Sem.run, h1]
  have hset : ∀ o, (setObj b o).run P w = .ok () { w with heap := w.heap.setIfInBounds b o } := by intro o; simp [setObj, Sem.run, h1]
  rcases find_ents (P := P) (w := w) (vf := vf) K h2 a with ⟨h6, h7⟩ | ⟨i, hi, h6, h7⟩
  · refine ⟨{ w with heap := w.heap.setIfInBounds b (.map (ents kf vf m s ++ [(⟨kf a, vf v, c⟩ : MapEntry)]).toArray (c + 1)) }, by simp [Instr.mapUpdate, hu, hg, K.check w, h6, hset], ⟨s ++ [c], c + 1, ?_, by simp [h2, upd, h7], ?_, ?_, ?_⟩, keep_setObj, by simp⟩
    · have : (ents kf vf (upd m a v) (s ++ [c])) = ents kf vf m s ++ [⟨kf a, vf v, c⟩] := by
        rw [upd, if_neg h7, ents, List.zip_append h2.symm, List.map_append]; rfl
      simp [this, hlt]
    · rw [List.pairwise_append]; exact ⟨h3, by simp, fun x hx y hy => by simp at hy; subst hy; exact h4 x hx⟩
    · intro x hx; simp at hx; rcases hx with hx | rfl
      · have := h4 x hx; omega
      · omega
    · rw [upd, if_neg h7, List.map_append, List.nodup_append]
      exact ⟨h5, by simp, fun x hx y hy => by simp at hy; subst hy; rintro rfl; exact h7 hx⟩
  · subst h7
    have hst := K.stays w
    have hm : (Option.map (fun x : MapEntry => x.key) (ents kf vf m s)[i]?).getD (kf m[i].1) = kf m[i].1 := by simp [ents_get m s h2 i hi]
    have hmod := modify_ents (kf := kf) (vf := vf) m s h2 i hi m[i].1 v
    simp only [List.modify_toArray] at hmod
    refine ⟨{ w with heap := w.heap.setIfInBounds b (.map (ents kf vf (m.set i (m[i].1, v)) s).toArray c) }, by simp [Instr.mapUpdate, hu, hg, K.check w, h6, hset, hm, hst, hmod], ⟨s, c, ?_, by rw [← set_upd m h5 i hi]; simpa using h2, h3, h4, ?_⟩, keep_setObj, by simp⟩
    · simp [hlt, ← set_upd m h5 i hi v]
    · rw [← set_upd m h5 i hi, List.map_set]
      have : (m.map (·.1)).set i m[i].1 = m.map (·.1) := by
        apply List.ext_getElem (by simp); intro j _ _; simp only [List.getElem_set, List.getElem_map]; split <;> simp_all
      simpa [this] using h5

/-- A store under a key that is there, while an iterator runs. -/
theorem IterAt.store {it b i : Nat} {m : List (α × β)} {done : List Nat} (h : IterAt kf vf w it b m done) (K : KeyFn P k kf) (ht : P.underlying t = some (.map k e)) (hi : i < m.length)
    (v : β) : ∃ w', (Instr.mapUpdate t (.map (some b)) (kf m[i].1) (vf v)).run P w = .ok () w' ∧ IterAt kf vf w' it b (m.set i (m[i].1, v)) done ∧ Keep (fun x => x = b) w w' ∧ w'.heap.size = w.heap.size := by
  have hne := h.ne
  obtain ⟨s, c, h1, h2, h3, h4, h5, hit⟩ := h
  have hlt := lt_of_heap h1
  have hu : ∀ W : World, (underlying t).run P W = .ok (.map k e) W := fun W => run_underlying ht W
  have hg : (getObj b).run P w = .ok (.map (ents kf vf m s).toArray c) w := by simp [getObj, Sem.run, h1]
  have hset : ∀ o, (setObj b o).run P w = .ok () { w with heap := w.heap.setIfInBounds b o } := by intro o; simp [setObj, Sem.run, h1]
  rcases find_ents (P := P) (w := w) (vf := vf) K h2 m[i].1 with ⟨h6, h7⟩ | ⟨i', hi', h6, h7⟩
  · exact absurd (List.mem_map_of_mem (List.getElem_mem hi)) h7
  · obtain rfl : i' = i := nodup_inj h5 (by simpa using hi') (by simpa using hi) (by simpa using h7)
    have hst := K.stays w
    have hm : (Option.map (fun x : MapEntry => x.key) (ents kf vf m s)[i']?).getD (kf m[i'].1) = kf m[i'].1 := by simp [ents_get m s h2 i' hi]
    have hmod := modify_ents (kf := kf) (vf := vf) m s h2 i' hi m[i'].1 v
    simp only [List.modify_toArray] at hmod
    refine ⟨{ w with heap := w.heap.setIfInBounds b (.map (ents kf vf (m.set i' (m[i'].1, v)) s).toArray c) }, by simp [Instr.mapUpdate, hu, hg, K.check w, h6, hset, hm, hst, hmod], ⟨s, c, ?_, by simpa using h2, h3, h4, ?_, ?_, hit.2.1, by simpa using hit.2.2⟩, keep_setObj, by simp⟩
    · simp [hlt]
    · rw [List.map_set]
      have : (m.map (·.1)).set i' m[i'].1 = m.map (·.1) := by
        apply List.ext_getElem (by simp); intro j _ _; simp only [List.getElem_set, List.getElem_map]; split <;> simp_all
      simpa [this] using h5
    · simpa [Array.getElem?_setIfInBounds, Ne.symm hne] using hit.1

/-- len. -/
theorem MapAt.len {b : Nat} {m : List (α × β)} (h : MapAt kf vf w b m) (ht : P.underlying t = some (.map k e)) (ty : TypeId) : (Builtin.len_ #[t] ty #[.map (some b)]).run P w = .ok (.int .i64 m.length) w := by
  obtain ⟨s, c, h1, h2, _⟩ := h
  have hg : (getObj b).run P w = .ok (.map (ents kf vf m s).toArray c) w := by simp [getObj, Sem.run, h1]
  have hu : ∀ W : World, (underlying t).run P W = .ok (.map k e) W := fun W => run_underlying ht W
  simp [Builtin.len_, Builtin.lenOf, hg, hu, ents_length m s h2, goInt]

/-- range. -/
theorem MapAt.range {b : Nat} {m : List (α × β)} (h : MapAt kf vf w b m) (ht : P.underlying t = some (.map k e)) :
    ∃ o, (Instr.range t (.map (some b))).run P w = .ok (.pointer (some ⟨w.heap.size, 0, none⟩)) (w.alloc o) ∧ IterAt kf vf (w.alloc o) w.heap.size b m [] := by
  have hb := h.lt
  obtain ⟨s, c, h1, h2, h3, h4, h5⟩ := h
  have hg : (getObj b).run P w = .ok (.map (ents kf vf m s).toArray c) w := by simp [getObj, Sem.run, h1]
  have hu : ∀ W : World, (underlying t).run P W = .ok (.map k e) W := fun W => run_underlying ht W
  refine ⟨.mapIter (some b) c #[] c, ?_, s, c, ?_, h2, h3, h4, h5, ?_, List.nodup_nil, by simp⟩
  · have hn : ∀ o : Obj, (newObj o).run P w = .ok w.heap.size (w.alloc o) := fun _ => rfl
    simp [Instr.range, hu, hg, hn]
  · rw [Below.heap_alloc _ _ _ hb]; exact h1
  · rw [heap_alloc_new]; simp

/-- A choice among n. -/
theorem run_chooseNext (n : Nat) (hn : 0 < n) : ∃ j w1, j < n ∧ (choose (.mapNext n)).run P w = .ok j w1 ∧ (w1 = w ∨ w1 = w.drew) := by
  by_cases h : n ≤ 1
  · exact ⟨0, w, hn, by simp [choose, Sem.run, Question.forced, h], .inl rfl⟩
  · exact ⟨w.tape w.drawn (.mapNext n) % n, w.drew, Nat.mod_lt _ hn, by simp [choose, Sem.run, Question.forced, Question.cut, h], .inr rfl⟩

/-- The iterator's step. -/
theorem IterAt.next {it b : Nat} {m : List (α × β)} {done : List Nat} (h : IterAt kf vf w it b m done) (ty : TypeId) :
    ((Instr.next (.pointer (some ⟨it, 0, none⟩)) false ty).run P w = .ok (.tuple #[.bool false]) w ∧ ∀ i, i < m.length → i ∈ done) ∨
    ∃ i, ∃ hi : i < m.length, ∃ w', i ∉ done ∧ (Instr.next (.pointer (some ⟨it, 0, none⟩)) false ty).run P w = .ok (.tuple #[.bool true, kf m[i].1, vf m[i].2]) w' ∧ IterAt kf vf w' it b m (done ++ [i]) ∧
      Keep (fun x => x = it) w w' ∧ w'.heap.size = w.heap.size := by
  have hne := h.ne
  obtain ⟨s, c, h1, h2, h3, h4, h5, h6, h7, h8⟩ := h
  have hlt := lt_of_heap h6
  have hgi : (getObj it).run P w = .ok (.mapIter (some b) c (done.map (s.getD · 0)).toArray c) w := by simp [getObj, Sem.run, h6]
  have hgb : (getObj b).run P w = .ok (.map (ents kf vf m s).toArray c) w := by simp [getObj, Sem.run, h1]
  have hborn : ∀ x ∈ ents kf vf m s, x.born < c := by
    intro x hx
    simp only [ents, List.mem_map] at hx
    obtain ⟨y, hy, rfl⟩ := hx
    exact h4 _ (List.of_mem_zip hy).2
  have hcond : (!((done.map (s.getD · 0)).toArray).isEmpty && !((ents kf vf m s).toArray).isEmpty && ((ents kf vf m s).toArray).all (fun x => decide (x.born ≥ c))) = false := by
    cases hE : ents kf vf m s with
    | nil => simp
    | cons x r =>
      have := hborn x (by rw [hE]; simp)
      simp; omega
  obtain ⟨L, hL⟩ : ∃ L, (ents kf vf m s).filter (fun x => !((done.map (s.getD · 0)).toArray).contains x.born) = L := ⟨_, rfl⟩
  have hleft : ((ents kf vf m s).toArray).filter (fun x => !((done.map (s.getD · 0)).toArray).contains x.born) = L.toArray := by rw [← hL]; simp
  have hLb : ∀ x ∈ L, x.born < c := fun x hx => hborn x (by rw [← hL] at hx; exact (List.mem_filter.1 hx).1)
  have hold : (L.toArray).filter (fun x => decide (x.born < c)) = L.toArray := by
    have : L.filter (fun x => decide (x.born < c)) = L := List.filter_eq_self.2 (fun x hx => by simpa using hLb x hx)
    simp [this]
  have hnew : (L.toArray).filter (fun x => decide (x.born ≥ c)) = #[] := by
    have : L.filter (fun x => decide (x.born ≥ c)) = [] := List.filter_eq_nil_iff.2 (fun x hx => by have := hLb x hx; simp; omega)
    simpa using this
  have hseen : ∀ i, i < m.length → (((done.map (s.getD · 0)).toArray).contains (s.getD i 0) = true ↔ i ∈ done) := by
    intro i hi
    simp only [List.contains_toArray, List.contains_iff_mem, List.mem_map]
    constructor
    · rintro ⟨j, hj, e⟩
      have := getD_lt h3 (by have := h8 j hj; omega) (by omega) e
      exact this ▸ hj
    · exact fun h => ⟨i, h, rfl⟩
  cases L with
  | nil =>
    refine .inl ⟨?_, fun i hi => ?_⟩
    · simp only [Instr.next, Sem.run_bind, hgi, hgb, Result.andThen_ok, hcond, hleft, hold, hnew]
      simp [choose, Sem.run, Question.forced]
    · rw [List.filter_eq_nil_iff] at hL
      have := hL _ (List.mem_of_getElem? (ents_get m s h2 i hi))
      have h9 := (hseen i hi).1
      rw [List.getD, List.getElem?_eq_getElem (by omega), Option.getD_some] at h9
      exact h9 (by simpa using this)
  | cons x0 r =>
    obtain ⟨j, w1, hj, hch, hw1⟩ := run_chooseNext (P := P) (w := w) (x0 :: r).length (by simp)
    obtain ⟨x, hx⟩ : ∃ x, (x0 :: r)[j]? = some x := ⟨_, List.getElem?_eq_getElem hj⟩
    have hxm : x ∈ ents kf vf m s ∧ ¬ ((done.map (s.getD · 0)).toArray).contains x.born = true := by
      have := List.mem_of_getElem? hx
      rw [← hL] at this
      simpa using List.mem_filter.1 this
    obtain ⟨i, hi, hie⟩ := List.mem_iff_getElem.1 hxm.1
    have hi' : i < m.length := by rwa [ents_length m s h2] at hi
    have hxe : x = ⟨kf m[i].1, vf m[i].2, s[i]'(by omega)⟩ := by
      have := ents_get (kf := kf) (vf := vf) m s h2 i hi'
      rw [List.getElem?_eq_getElem hi, hie] at this
      exact Option.some.inj this
    have hsi : s.getD i 0 = s[i]'(by omega) := by simp [List.getD, h2, hi']
    have hnd : i ∉ done := by
      intro hd
      apply hxm.2
      rw [hxe]
      have := (hseen i hi').2 hd
      rwa [hsi] at this
    have hheap : w1.heap = w.heap := by rcases hw1 with rfl | rfl <;> rfl
    have hset : ∀ o, (setObj it o).run P w1 = .ok () { w1 with heap := w1.heap.setIfInBounds it o } := by
      intro o; simp [setObj, Sem.run, hheap, h6]
    have hb' : (!(done.map (s.getD · 0)).toArray.contains x.born) = true := by simpa using hxm.2
    refine .inr ⟨i, hi', { w1 with heap := w1.heap.setIfInBounds it (.mapIter (some b) c ((done ++ [i]).map (s.getD · 0)).toArray c) }, hnd, ?_, ⟨s, c, ?_, h2, h3, h4, h5, ?_, ?_, ?_⟩, ?_, ?_⟩
    · simp only [Instr.next, Sem.run_bind, hgi, hgb, Result.andThen_ok, hcond, hleft, hold, hnew]
      have hsz : (((if ((x0 :: r).toArray).isEmpty = true then #[none] else #[]) ++ Array.map some ((x0 :: r).toArray ++ #[])) : Array (Option MapEntry)) = ((x0 :: r).map some).toArray := by simp
      simp only [hsz, List.size_toArray, List.length_map, Bool.false_eq_true, if_false, Sem.run_bind, hch, Result.andThen_ok]
      have hget : ((((x0 :: r).map some).toArray)[j]? : Option (Option MapEntry)) = some (some x) := by
        rw [List.getElem?_toArray, List.getElem?_map, hx]; rfl
      rw [hget]
      simp only [Sem.run_bind, hset, Result.andThen_ok, Sem.run_pure, hxe]
      have hsi' : s[i]?.getD 0 = s[i]'(by omega) := by simpa [List.getD] using hsi
      simp [List.push_toArray, hsi']
    · simp [Array.getElem?_setIfInBounds, hne, hheap, h1]
    · simp [hheap, hlt]
    · rw [List.nodup_append]; exact ⟨h7, by simp, fun x hx y hy => by simp at hy; subst hy; rintro rfl; exact hnd hx⟩
    · intro x hx; simp at hx; rcases hx with hx | rfl
      · exact h8 x hx
      · exact hi'
    · rcases hw1 with rfl | rfl
      · exact keep_setObj
      · exact ((Keep.refl (fun x => x = it) w).drew).trans (keep_setObj (w := w.drew)) (fun _ _ h => h)
    · simp [hheap]

/-- What the iterator stands at. -/
theorem IterAt.entry {it b i : Nat} {m : List (α × β)} {done : List Nat} (h : IterAt kf vf w it b m (done ++ [i])) (hi : i < m.length) :
    (Instr.entry (.pointer (some ⟨it, 0, none⟩))).run P w = .ok (.tuple #[kf m[i].1, vf m[i].2]) w := by
  obtain ⟨s, c, h1, h2, h3, h4, h5, h6, h7, h8⟩ := h
  have hgi : (getObj it).run P w = .ok (.mapIter (some b) c ((done ++ [i]).map (s.getD · 0)).toArray c) w := by simp [getObj, Sem.run, h6]
  have hgb : (getObj b).run P w = .ok (.map (ents kf vf m s).toArray c) w := by simp [getObj, Sem.run, h1]
  have hback : ((done ++ [i]).map (s.getD · 0)).toArray.back? = some (s.getD i 0) := by simp
  have hsi : s.getD i 0 = s[i]'(by omega) := by simp [List.getD, h2, hi]
  have hf : ((ents kf vf m s).toArray).find? (fun x => x.born == s.getD i 0) = some ⟨kf m[i].1, vf m[i].2, s[i]'(by omega)⟩ := by
    rw [List.find?_toArray, List.find?_eq_some_iff_getElem]
    have hil : i < (ents kf vf m s).length := by rw [ents_length m s h2]; exact hi
    refine ⟨by rw [hsi]; simp, i, hil, ?_, ?_⟩
    · have := ents_get (kf := kf) (vf := vf) m s h2 i hi
      rw [List.getElem?_eq_getElem hil] at this
      exact Option.some.inj this
    · intro j hj
      have hjl : j < (ents kf vf m s).length := by omega
      have := ents_get (kf := kf) (vf := vf) m s h2 j (by omega)
      rw [List.getElem?_eq_getElem hjl] at this
      rw [Option.some.inj this]
      have hne := List.pairwise_iff_getElem.1 h3 j i (by omega) (by omega) hj
      rw [hsi]; simp only [Bool.not_eq_true, beq_eq_false_iff_ne]; simp; omega
  simp only [Instr.entry, Sem.run_bind, hgi, hgb, Result.andThen_ok, hback]
  simp only [bne_self_eq_false, Bool.false_eq_true, if_false, hf]
  rfl

/-! ### At the operations of a walk. -/
variable {ops : Array Oper} {rest : List Oper} {o : Oper} {a : Act} {Q : Exit → Act → World → Prop}
theorem wpList_lookok (hg : o.guard = none) (mo xo : Operand) (hop : o.op = Op.lookup t mo xo true) (K : KeyFn P k kf)
    (ht : P.underlying t = some (.map k e)) (z : Value) (hz : (zeroValue e).run P w = .ok z w) {b : Nat} {m : List (α × β)} (hown : MapAt kf vf w b m) (hm : a.eval mo = .map (some b)) (x : α) (hx : a.eval xo = kf x)
    (h0 : x ∉ m.map (·.1) → wpList P ops Q rest (a.put o.dst (.tuple #[z, .bool false])) w) (h1 : ∀ v, (x, v) ∈ m → wpList P ops Q rest (a.put o.dst (.tuple #[vf v, .bool true])) w) : wpList P ops Q (o :: rest) a w := by
  refine wpList_plain hg fun K' hK' => ?_
  unfold Oper.wp
  rcases hown.look K ht z hz x true with ⟨hr, hn⟩ | ⟨v, hr, hv⟩
  · simp only [if_true] at hr
    simp [execOp, hop, hm, hx, hr, Result.andThen]
    exact hK' _ _ (h0 hn)
  · simp only [if_true] at hr
    simp [execOp, hop, hm, hx, hr, Result.andThen]
    exact hK' _ _ (h1 v hv)

theorem wpList_store [DecidableEq α] (hg : o.guard = none) (mo xo vo : Operand) (hop : o.op = Op.mapUpdate t mo xo vo) (K : KeyFn P k kf)
    (ht : P.underlying t = some (.map k e)) {b : Nat} {m : List (α × β)} (hown : MapAt kf vf w b m) (hm : a.eval mo = .map (some b)) (x : α) (hx : a.eval xo = kf x) (v : β) (hv : a.eval vo = vf v)
    (h : ∀ w', MapAt kf vf w' b (upd m x v) → Keep (fun x => x = b) w w' → w'.heap.size = w.heap.size → wpList P ops Q rest (a.put o.dst undef) w') : wpList P ops Q (o :: rest) a w := by
  refine wpList_plain hg fun K' hK' => ?_
  unfold Oper.wp
  obtain ⟨w', hr, h1, h2, h3⟩ := hown.store (P := P) K ht x v
  simp [execOp, hop, hm, hx, hv, hr, Result.andThen]
  exact hK' _ _ (h w' h1 h2 h3)

theorem wpList_mlen (hg : o.guard = none) (mo : Operand) (hop : o.op = .call { callee := .builtin .len, args := #[mo], argTypes := #[t] }) (ht : P.underlying t = some (.map k e)) {b : Nat} {m : List (α × β)}
    (hown : MapAt kf vf w b m) (hm : a.eval mo = .map (some b)) (h : wpList P ops Q rest (a.put o.dst (.int .i64 m.length)) w) : wpList P ops Q (o :: rest) a w := by
  refine wpList_plain hg fun K' hK' => ?_
  unfold Oper.wp
  simp [execOp, hop, resolve, invoke, builtin, hm, hown.len ht, Result.andThen]
  exact hK' _ _ h

theorem wpList_mrange (hg : o.guard = none) (mo : Operand) (hop : o.op = Op.range t mo) (ht : P.underlying t = some (.map k e)) {b : Nat} {m : List (α × β)} (hown : MapAt kf vf w b m) (hm : a.eval mo = .map (some b))
    (h : ∀ ob, IterAt kf vf (w.alloc ob) w.heap.size b m [] → wpList P ops Q rest (a.put o.dst (.pointer (some ⟨w.heap.size, 0, none⟩))) (w.alloc ob)) : wpList P ops Q (o :: rest) a w := by
  refine wpList_plain hg fun K' hK' => ?_
  unfold Oper.wp
  obtain ⟨ob, hr, h1⟩ := hown.range (P := P) ht
  simp [execOp, hop, hm, hr, Result.andThen]
  exact hK' _ _ (h ob h1)

theorem wpList_mnext (hg : o.guard = none) (io : Operand) (hop : o.op = Op.next io false) {it b : Nat} {m : List (α × β)} {done : List Nat} (hown : IterAt kf vf w it b m done) (hi : a.eval io = .pointer (some ⟨it, 0, none⟩))
    (h0 : (∀ i, i < m.length → i ∈ done) → wpList P ops Q rest (a.put o.dst (.tuple #[.bool false])) w)
    (h1 : ∀ i, (hi : i < m.length) → i ∉ done → ∀ w', IterAt kf vf w' it b m (done ++ [i]) → Keep (fun x => x = it) w w' → w'.heap.size = w.heap.size →
      (Instr.entry (.pointer (some ⟨it, 0, none⟩))).run P w' = .ok (.tuple #[kf m[i].1, vf m[i].2]) w' → wpList P ops Q rest (a.put o.dst (.tuple #[.bool true, kf m[i].1, vf m[i].2])) w') : wpList P ops Q (o :: rest) a w := by
  refine wpList_plain hg fun K' hK' => ?_
  unfold Oper.wp
  rcases hown.next (P := P) o.type with ⟨hr, hn⟩ | ⟨i, hi', w', hn, hr, h2, h3, h4⟩
  · simp [execOp, hop, hi, hr, Result.andThen]
    exact hK' _ _ (h0 hn)
  · simp [execOp, hop, hi, hr, Result.andThen]
    exact hK' _ _ (h1 i hi' hn w' h2 h3 h4 (h2.entry hi'))
theorem wpList_istore (hg : o.guard = none) (mo xo vo : Operand) (hop : o.op = Op.mapUpdate t mo xo vo) (K : KeyFn P k kf)
    (ht : P.underlying t = some (.map k e)) {it b i : Nat} {m : List (α × β)} {done : List Nat} (hown : IterAt kf vf w it b m done) (hi : i < m.length) (x : α) (hxm : m[i].1 = x) (hm : a.eval mo = .map (some b)) (hx : a.eval xo = kf x) (v : β) (hv : a.eval vo = vf v)
    (h : ∀ w', IterAt kf vf w' it b (m.set i (x, v)) done → Keep (fun x => x = b) w w' → w'.heap.size = w.heap.size → wpList P ops Q rest (a.put o.dst undef) w') : wpList P ops Q (o :: rest) a w := by
  subst hxm
  refine wpList_plain hg fun K' hK' => ?_
  unfold Oper.wp
  obtain ⟨w', hr, h1, h2, h3⟩ := hown.store (P := P) K ht hi v
  simp [execOp, hop, hm, hx, hv, hr, Result.andThen]
  exact hK' _ _ (h w' h1 h2 h3)
end

theorem bbeq_self (a : ByteArray) : (a == a) = true := (MapKept.bytes_beq a a).2 rfl
theorem bbeq_ne {a b : ByteArray} (h : ¬ a = b) : (a == b) = false := by
  cases e : (a == b) with
  | false => rfl
  | true => exact absurd ((MapKept.bytes_beq a b).1 e) h
/-- Keys that are texts. -/
theorem findNow_str (a : ByteArray) : ∀ (es : List MapEntry) (as : List ByteArray) (i : Nat), es.map (·.key) = as.map Value.string →
    (Instr.findNow .string (.string a) es i = some none ∧ a ∉ as) ∨ ∃ j, ∃ e, Instr.findNow .string (.string a) es i = some (some (i + j, e.val)) ∧ es[j]? = some e ∧ as[j]? = some a
  | [], [], _, _ => .inl ⟨rfl, by simp⟩
  | [], _ :: _, _, h => by simp at h
  | _ :: _, [], _, h => by simp at h
  | x :: es, y :: as, i, h => by
    simp only [List.map_cons, List.cons.injEq] at h
    obtain ⟨h1, h2⟩ := h
    by_cases hxy : a = y
    · subst hxy
      exact .inr ⟨0, x, by simp [Instr.findNow, Instr.sameNow, h1, bbeq_self], rfl, rfl⟩
    · rcases findNow_str a es as (i + 1) h2 with ⟨h3, h4⟩ | ⟨j, e, h3, h4, h5⟩
      · exact .inl ⟨by simp [Instr.findNow, Instr.sameNow, h1, bbeq_ne hxy, h3], by simp [hxy, h4]⟩
      · exact .inr ⟨j + 1, e, by simp [Instr.findNow, Instr.sameNow, h1, bbeq_ne hxy, h3]; omega, by simpa using h4, by simpa using h5⟩

theorem strKey {P : Program} {k : TypeId} (hk : P.underlying k = some .string) : KeyFn P k Value.string where
  check := fun w em a => MapKept.run_checkKey hk (d := .string) (k := .string a) trivial em 9999
  find := fun w a es as h => by
    rcases findNow_str a es as 0 h with ⟨h3, h4⟩ | ⟨j, e, h3, h4, h5⟩
    · exact .inl ⟨by simp [Instr.findKey, run_underlying hk, h3], h4⟩
    · exact .inr ⟨j, e, by simp [Instr.findKey, run_underlying hk, h3], h4, h5⟩
  stays := fun w a => by simp [Instr.keyThatStays, Instr.sameBits, bbeq_self]

/-- How many keys an iterator has told. -/
def visited (w : World) (it : Nat) : Nat := match w.heap[it]? with | some (.mapIter _ _ v _) => v.size | _ => 0
theorem IterAt.visited {α β : Type} {kf : α → Value} {vf : β → Value} {w : World} {it b : Nat} {m : List (α × β)} {done : List Nat} (h : IterAt kf vf w it b m done) : visited w it = done.length := by
  obtain ⟨s, c, h1, h2, h3, h4, h5, h6, h7⟩ := h
  simp [Proofs.Ytfahakmnlmlgcaa.visited, h6]

theorem nodup_le : ∀ (n : Nat) (l : List Nat), l.Nodup → (∀ x ∈ l, x < n) → l.length ≤ n
  | 0, l, _, h => by
    cases l with
    | nil => simp
    | cons x l => exact absurd (h x (by simp)) (by omega)
  | n + 1, l, hd, h => by
    have := nodup_le n (l.erase n) (hd.erase n) (fun x hx => by
      have h1 := (List.Nodup.mem_erase_iff hd).1 hx
      have := h x h1.2; omega)
    have h2 := List.length_erase (a := n) (l := l)
    split at h2 <;> omega
theorem IterAt.done_le {α β : Type} {kf : α → Value} {vf : β → Value} {w : World} {it b : Nat} {m : List (α × β)} {done : List Nat} (h : IterAt kf vf w it b m done) : done.length ≤ m.length := nodup_le _ _ h.nodup.1 h.nodup.2
end Go.Proofs.Ytfahakmnlmlgcaa
