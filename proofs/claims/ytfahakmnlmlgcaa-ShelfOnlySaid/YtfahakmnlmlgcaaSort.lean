/-
  Sorting by a text: plain Lean; and what the kit's contract for a sort of structs says in this seat's words. No program in sight.
-/
import Derived.Test.YtfahakmnlmlgcaaBase
import Derived.Shelf.SlSortCmp.SmallK
namespace Go.Proofs.Ytfahakmnlmlgcaa
set_option linter.unusedSectionVars false
set_option linter.unusedSimpArgs false
set_option linter.unusedVariables false
open Go.RowKit Go.Lib Go.Sort Go.Proofs

def ltB (a b : ByteArray) : Bool := Op.bytesLess a.toList b.toList
theorem ltB_iff (a b : ByteArray) : ltB a b = true ↔ a.toList < b.toList := by rw [ltB, bytesLess_eq, decide_eq_true_iff]
theorem ltB_irrefl (a : ByteArray) : ltB a a = false := by
  cases h : ltB a a with
  | false => rfl
  | true => exact absurd ((ltB_iff _ _).1 h) (List.lt_irrefl _)
theorem ltB_trans {a b c : ByteArray} (h1 : ltB a b = true) (h2 : ltB b c = true) : ltB a c = true := by
  rw [ltB_iff] at *; exact List.lt_trans h1 h2
theorem ltB_asymm {a b : ByteArray} (h : ltB a b = true) : ltB b a = false := by
  cases h2 : ltB b a with
  | false => rfl
  | true => rw [← ltB_irrefl a, ltB_trans h h2]
theorem tl_inj0 {a b : ByteArray} (h : a.toList = b.toList) : a = b := by
  rw [ByteArray.toList_eq, ByteArray.toList_eq] at h
  cases a; cases b; simp at h; simp [h]
theorem ltB_total {a b : ByteArray} (h1 : ltB a b = false) (h2 : ltB b a = false) : a = b := by
  apply tl_inj0
  have n1 : ¬ a.toList < b.toList := fun h => by rw [(ltB_iff _ _).2 h] at h1; cases h1
  have n2 : ¬ b.toList < a.toList := fun h => by rw [(ltB_iff _ _).2 h] at h2; cases h2
  exact List.le_antisymm n2 n1
theorem ltB_ntrans {a b c : ByteArray} (h1 : ltB a b = false) (h2 : ltB b c = false) : ltB a c = false := by
  cases h : ltB a c with
  | false => rfl
  | true =>
    cases h3 : ltB b a with
    | true => rw [ltB_trans h3 h] at h2; cases h2
    | false => obtain rfl := ltB_total h1 h3; rw [h] at h2; cases h2

section keyed
variable {α : Type} (key : α → ByteArray)
/-- One more, by the key. -/
def insK (x : α) : List α → List α
  | [] => [x]
  | y :: l => if ltB (key x) (key y) = true then x :: y :: l else y :: insK x l
/-- By the key, rising. -/
def srtK (m : List α) : List α := m.foldl (fun l x => insK key x l) []
theorem insK_perm (x : α) : ∀ l : List α, (insK key x l).Perm (x :: l)
  | [] => List.Perm.refl _
  | y :: l => by
    unfold insK
    split
    · exact List.Perm.refl _
    · exact ((insK_perm x l).cons y).trans (List.Perm.swap x y l)
theorem foldl_perm : ∀ (m l : List α), (m.foldl (fun l x => insK key x l) l).Perm (l ++ m)
  | [], l => by simp
  | x :: m, l => by
    refine (foldl_perm m (insK key x l)).trans ?_
    refine ((insK_perm key x l).append_right m).trans ?_
    simpa using (List.perm_middle (a := x) (l₁ := l) (l₂ := m)).symm
theorem srtK_perm (m : List α) : (srtK key m).Perm m := by simpa [srtK] using foldl_perm key m []
theorem srtK_length (m : List α) : (srtK key m).length = m.length := (srtK_perm key m).length_eq
theorem srtK_append (m : List α) (x : α) : srtK key (m ++ [x]) = insK key x (srtK key m) := by simp [srtK]

def Rising (l : List α) : Prop := l.Pairwise fun a b => ltB (key a) (key b) = true
theorem insK_rising (x : α) : ∀ l : List α, Rising key l → (∀ y ∈ l, key y ≠ key x) → Rising key (insK key x l)
  | [], _, _ => by simp [insK, Rising]
  | y :: l, h, hn => by
    unfold Rising at h ⊢
    rw [List.pairwise_cons] at h
    unfold insK
    split
    · rename_i hlt
      rw [List.pairwise_cons, List.pairwise_cons]
      refine ⟨fun z hz => ?_, h.1, h.2⟩
      rcases List.mem_cons.1 hz with rfl | hz
      · exact hlt
      · exact ltB_trans hlt (h.1 z hz)
    · rename_i hlt
      rw [List.pairwise_cons]
      refine ⟨fun z hz => ?_, insK_rising x l h.2 (fun z hz => hn z (by simp [hz]))⟩
      rcases List.mem_cons.1 ((insK_perm key x l).mem_iff.1 hz) with rfl | hz
      · cases h9 : ltB (key y) (key z) with
        | true => rfl
        | false => exact absurd (ltB_total h9 (by simpa using hlt)) (hn y (by simp))
      · exact h.1 z hz
theorem foldl_rising : ∀ (m l : List α), Rising key l → ((l ++ m).map key).Nodup → Rising key (m.foldl (fun l x => insK key x l) l)
  | [], l, h, _ => h
  | x :: m, l, h, hn => by
    refine foldl_rising m (insK key x l) (insK_rising key x l h ?_) ?_
    · intro y hy he
      rw [List.map_append, List.nodup_append] at hn
      exact hn.2.2 (key y) (List.mem_map_of_mem hy) (key x) (by simp) he
    · refine (((insK_perm key x l).append_right m).map key).nodup_iff.2 ?_
      refine ((List.perm_middle (a := x) (l₁ := l) (l₂ := m)).map key).nodup_iff.1 hn
theorem srtK_rising (m : List α) (hn : (m.map key).Nodup) : Rising key (srtK key m) := foldl_rising key m [] List.Pairwise.nil (by simpa using hn)

theorem srtK_uniq (l m : List α) (hp : l.Perm m) (hn : (m.map key).Nodup) (hs : l.Pairwise fun a b => ltB (key b) (key a) = false) : l = srtK key m := by
  have hl : (l.map key).Nodup := (hp.map key).nodup_iff.2 hn
  have h1 : Rising key l := by
    unfold Rising
    rw [List.nodup_iff_pairwise_ne, List.pairwise_map] at hl
    refine (hs.and hl).imp ?_
    intro a b ⟨h, hne⟩
    cases h9 : ltB (key a) (key b) with
    | true => rfl
    | false => exact absurd (ltB_total h9 h) hne
  refine List.Perm.eq_of_pairwise (le := fun a b => ltB (key a) (key b) = true) ?_ h1 (srtK_rising key m hn) (hp.trans (srtK_perm key m).symm)
  intro a b _ _ h2 h3
  rw [ltB_asymm h2] at h3; cases h3
end keyed

theorem insK_map {α β : Type} (f : α → β) (k1 : α → ByteArray) (k2 : β → ByteArray) (x : α) (hx : k1 x = k2 (f x)) : ∀ l : List α, (∀ y ∈ l, k1 y = k2 (f y)) → (insK k1 x l).map f = insK k2 (f x) (l.map f)
  | [], _ => rfl
  | y :: l, h => by
    rw [insK, List.map_cons, insK, ← hx, ← h y (by simp)]
    split
    · rfl
    · rw [List.map_cons, insK_map f k1 k2 x hx l (fun z hz => h z (by simp [hz]))]
theorem foldl_map' {α β : Type} (f : α → β) (k1 : α → ByteArray) (k2 : β → ByteArray) : ∀ m l : List α, (∀ y ∈ m, k1 y = k2 (f y)) → (∀ y ∈ l, k1 y = k2 (f y)) →
    (m.foldl (fun l x => insK k1 x l) l).map f = (m.map f).foldl (fun l x => insK k2 x l) (l.map f)
  | [], l, _, _ => rfl
  | x :: m, l, hm, hl => by
    rw [List.foldl_cons, List.map_cons, List.foldl_cons, foldl_map' f k1 k2 m _ (fun y hy => hm y (by simp [hy])) ?_, insK_map f k1 k2 x (hm x (by simp)) l hl]
    intro y hy
    rcases List.mem_cons.1 ((insK_perm k1 x l).mem_iff.1 hy) with rfl | hy
    · exact hm _ (by simp)
    · exact hl y hy
theorem srtK_map {α β : Type} (f : α → β) (k1 : α → ByteArray) (k2 : β → ByteArray) (m : List α) (h : ∀ y ∈ m, k1 y = k2 (f y)) : (srtK k1 m).map f = srtK k2 (m.map f) := foldl_map' f k1 k2 m [] h (by simp)

/-- What the sort leaves: the list by its keys. -/
theorem sorted_eq {α : Type} [Inhabited α] (key : α → ByteArray) (cf : α → α → Int) (hcf : ∀ x y, ltOf cf x y = ltB (key x) (key y)) (l m : List α) (hp : l.Perm m) (hn : (m.map key).Nodup) :
    (Sort.insertionSort (ltOf cf) l.toArray 0 l.length).toList = srtK key m := by
  have hS : SWO (ltOf cf) := ⟨fun x => by rw [hcf]; exact ltB_irrefl _, fun x y z h1 h2 => by rw [hcf] at *; exact ltB_trans h1 h2, fun x y z h1 h2 => by rw [hcf] at *; exact ltB_ntrans h1 h2⟩
  have hlen : l.length = l.toArray.size := by simp
  obtain ⟨⟨h1, _, h2⟩, h3⟩ := insertionSort_holds (lt := ltOf cf) hS l.toArray 0 l.length (Nat.zero_le _) (by simp)
  generalize Sort.insertionSort (ltOf cf) l.toArray 0 l.length = r at h1 h2 h3
  have hr : (r.extract 0 l.length) = r := by rw [hlen, ← h1]; simp
  have hl : (l.toArray.extract 0 l.length) = l.toArray := by simp
  rw [hr, hl] at h2
  refine srtK_uniq key r.toList m (h2.trans hp) hn ?_
  rw [List.pairwise_iff_getElem]
  intro i j hi hj hij
  have h4 := h3 i j (Nat.zero_le _) hij (by simpa [h1] using hj)
  rw [hcf] at h4
  rw [getElem!_pos r j (by simpa using hj), getElem!_pos r i (by simpa using hi)] at h4
  simpa using h4

/-! ### the row -/
section row
variable {α : Type} [Inhabited α] (enc : α → List Value) (k : Nat)
theorem flatMap_get (hk : ∀ x, (enc x).length = k) (h0 : 0 < k) : ∀ (l : List α) (t : Nat), t < l.length * k → (l.flatMap enc)[t]? = (enc l.toArray[t / k]!)[t % k]?
  | [], t, h => by simp at h
  | x :: l, t, h => by
    rw [List.flatMap_cons]
    by_cases ht : t < k
    · rw [List.getElem?_append_left (by rw [hk]; exact ht), Nat.div_eq_of_lt ht, Nat.mod_eq_of_lt ht]
      simp
    · have h' : (t - k) < l.length * k := by simp [Nat.add_mul] at h; omega
      have e1 : t / k = (t - k) / k + 1 := by
        rw [← Nat.add_div_right _ h0]; congr 1; omega
      have e2 : t % k = (t - k) % k := by
        conv => lhs; rw [show t = (t - k) + k by omega]
        exact Nat.add_mod_right _ _
      rw [List.getElem?_append_right (by rw [hk]; omega), hk, flatMap_get hk h0 l (t - k) h', e1, e2]
      have hlt : (t - k) / k < l.length := (Nat.div_lt_iff_lt_mul h0).2 h'
      simp [hlt]
theorem flatMap_length (hk : ∀ x, (enc x).length = k) : ∀ l : List α, (l.flatMap enc).length = l.length * k
  | [] => by simp
  | x :: l => by rw [List.flatMap_cons, List.length_append, hk, flatMap_length hk l, List.length_cons, Nat.add_mul]; omega
theorem flat_eq (hk : ∀ x, (enc x).length = k) (h0 : 0 < k) (l : List α) : (flatK enc k l.toArray) = (l.flatMap enc).toArray := by
  apply Array.ext (by rw [size_flatK]; simp only [List.size_toArray, flatMap_length enc k hk])
  intro t h1 h2
  have ht : t < l.length * k := by rw [size_flatK] at h1; simpa using h1
  have e1 := get_flatK enc k l.toArray t (by simpa using ht)
  rw [getElem!_pos _ t h1] at e1
  rw [e1]
  have e2 := flatMap_get enc k hk h0 l t ht
  have hm : t % k < (enc l.toArray[t / k]!).length := by rw [hk]; exact Nat.mod_lt _ h0
  rw [List.getElem?_eq_getElem hm] at e2
  have h3 : t < (l.flatMap enc).length := by rw [flatMap_length enc k hk]; exact ht
  rw [List.getElem?_eq_getElem h3] at e2
  have e3 := Option.some.inj e2
  rw [getElem!_pos (enc l.toArray[t / k]!) (t % k) hm, ← e3]
  simp

theorem holds_row (hk : ∀ x, (enc x).length = k) (h0 : 0 < k) {F : Nat → Prop} {w : World} {e g n cap : Nat} {l : List α} (hn : n = l.length) (h : Row F w e k (.slice (some ⟨g, 0, none⟩) n cap) n (l.flatMap enc)) : HoldsK enc k w g 0 l.toArray := by
  subst hn
  unfold HoldsK
  rw [flat_eq enc k hk h0]
  rcases h.1.2 with ⟨hv, _⟩ | ⟨g', cap', cur, hv, _, hb, h1, h2, h3, h4⟩
  · cases hv
  · simp only [Value.slice.injEq, Option.some.injEq] at hv
    obtain ⟨hg, _, _⟩ := hv
    injection hg with hg
    subst hg
    intro j hj
    have hj' : j < (l.flatMap enc).length := by simpa using hj
    refine ⟨?_, by simp [World.frozen?, hb]⟩
    have e := h.1.cells (g := g) rfl j (l.flatMap enc)[j] (by simp [hj'])
    rw [Src.add_lit] at e
    rw [e, getElem!_pos _ j hj]
    simp

theorem row_sorted (hk : ∀ x, (enc x).length = k) (h0 : 0 < k) {F : Nat → Prop} {w : World} {e g n cap m : Nat} {os : Array Obj} {l l' : List α} (hl : l'.length = l.length) (hn : n = l.length) (h : Row F w e k (.slice (some ⟨g, 0, none⟩) n cap) n (l.flatMap enc)) :
    Row F (sortWorldK enc k w g 0 m l'.toArray os) e k (.slice (some ⟨g, 0, none⟩) n cap) n (l'.flatMap enc) ∧ Keep (fun x => x = g) w (sortWorldK enc k w g 0 m l'.toArray os) := by
  subst hn
  have hF := h.2
  rcases h.1.2 with ⟨hv, _⟩ | ⟨g', cap', cur, hv, _, hb, h1, h2, h3, h4⟩
  · cases hv
  · simp only [Value.slice.injEq, Option.some.injEq] at hv
    obtain ⟨hg, _, hc⟩ := hv
    injection hg with hg
    subst hg; subst hc
    have hlt := lt_of_heap hb
    have hsz : ∀ c, (putCells (α := Value) id 0 (l'.flatMap enc).toArray c).size = c.size := fun c => by simp [putCells]
    have hlen : (l'.flatMap enc).length = l.length * k := by rw [flatMap_length enc k hk, hl]
    have hW : (sortWorldK enc k w g 0 m l'.toArray os).heap[g]? = some (.cells (putCells id 0 (l'.flatMap enc).toArray cur) e (0, 0)) := by
      unfold sortWorldK putRowK
      rw [flat_eq enc k hk h0, heap_grow_old _ _ (by simpa using hlt)]
      simp [putRow, mapBlock, Sort.ahead, Array.getElem?_modify, hb, onCells]
    refine ⟨⟨⟨hlen, .inr ⟨g, cap, _, rfl, Nat.zero_le _, hW, h1, h2, by rw [hsz]; exact h3, ?_⟩⟩, hF⟩, rfl, rfl, rfl, ?_, fun j hj hne => ?_⟩
    · have hle : l.length * k ≤ cur.size := by rw [h3]; exact Nat.mul_le_mul_right k h1
      apply List.ext_getElem?
      intro j
      by_cases hj : j < l.length * k
      · rw [List.getElem?_take_of_lt hj, Array.getElem?_toList]
        simp [putCells, hlen, hj, show j < cur.size by omega]
      · rw [List.getElem?_take_eq_none (by omega), List.getElem?_eq_none (by omega)]
    · unfold sortWorldK putRowK
      simp
    · unfold sortWorldK putRowK
      rw [heap_grow_old _ _ (by simpa using hj)]
      have : g ≠ j := fun e => hne e.symm
      simp [putRow, mapBlock, Sort.ahead, Array.getElem?_modify, this]
end row
end Go.Proofs.Ytfahakmnlmlgcaa
