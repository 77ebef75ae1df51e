/-
  A shelf in memory, told in plain words; contracts of New, end, count.
-/
import Derived.Test.YtfahakmnlmlgcaaProg
import Derived.Test.YtfahakmnlmlgcaaMap
import Derived.Test.YtfahakmnlmlgcaaShelfA
import Derived.WalkLawsBesides
import Derived.Lib.Hide
namespace Go.Proofs.Ytfahakmnlmlgcaa
open Go.RowKit Go.Lib
set_option linter.unusedVariables false
set_option linter.unusedSimpArgs false

theorem Try.infoString : (Try.prog.info? 9).map (fun i => (i.zero, i.size, i.bytes)) = some (some (.string ⟨#[]⟩), 1, 16) := by kernel_rfl

/-- A queue, in plain words: the groups as the map has them. -/
structure Qu where
  name : ByteArray
  first : Nat
  items : List ByteArray
  groups : List (ByteArray × Nat)

abbrev kS : ByteArray → Value := Value.string
abbrev vI : Nat → Value := fun n => Value.int .i64 n

/-- The five cells of a slot. -/
structure SC where
  used : Bool
  name : ByteArray
  first : Nat
  A : Option Addr
  n : Nat
  c : Nat
  m : Option Nat
def SC.get (s : SC) : Nat → Value
  | 0 => .bool s.used
  | 1 => .string s.name
  | 2 => .int .i64 s.first
  | 3 => .slice s.A s.n s.c
  | _ => .map s.m
def SC.zero : SC := ⟨false, ByteArray.empty, 0, none, 0, 0, none⟩

/-- What lies in a slot: its cells, the row of its items, its map. -/
def SlotAt (F : Nat → Prop) (w : World) (s : SC) : Option Qu → Prop
  | none => s = SC.zero
  | some q => s.used = true ∧ s.name = q.name ∧ s.first = q.first ∧ s.n = q.items.length ∧ Row F w 9 1 (.slice s.A s.n s.c) s.n (textsV q.items) ∧ ∃ b, s.m = some b ∧ F b ∧ MapAt kS vI w b q.groups

/-- The shelf at block g. -/
def ShelfAt (F : Nat → Prop) (w : World) (g : Nat) (S : Nat → Option Qu) : Prop :=
  ∃ (sc : Nat → SC) (cs : Array Value) (Fi : Nat → Nat → Prop), w.heap[g]? = some (.cells cs 89 (0, 0)) ∧ cs.size = 40 ∧ (∀ i, i < 8 → ∀ j, j < 5 → cs[i * 5 + j]? = some ((sc i).get j)) ∧
    F g ∧ (∀ i k, Fi i k → F k ∧ k ≠ g) ∧ (∀ i j k, Fi i k → Fi j k → i = j) ∧ ∀ i, i < 8 → SlotAt (Fi i) w (sc i) (S i)

theorem ShelfAt.lt {F : Nat → Prop} {w : World} {g : Nat} {S : Nat → Option Qu} (h : ShelfAt F w g S) : g < w.heap.size := let ⟨_, _, _, h, _⟩ := h; lt_of_heap h

theorem SlotAt.keep {F M : Nat → Prop} {w w' : World} {s : SC} {q : Option Qu} (h : SlotAt F w s q) (k : Keep M w w') (hm : ∀ b, F b → ¬ M b) : SlotAt F w' s q := by
  cases q with
  | none => exact h
  | some q =>
    obtain ⟨h1, h2, h3, h4, h5, b, h6, h7, h8⟩ := h
    exact ⟨h1, h2, h3, h4, h5.keep k hm, b, h6, h7, h8.keep k (hm b h7)⟩
theorem SlotAt.mono {F G : Nat → Prop} {w : World} {s : SC} {q : Option Qu} (h : SlotAt F w s q) (hm : ∀ b, F b → G b) : SlotAt G w s q := by
  cases q with
  | none => exact h
  | some q =>
    obtain ⟨h1, h2, h3, h4, h5, b, h6, h7, h8⟩ := h
    exact ⟨h1, h2, h3, h4, h5.mono (fun b hb _ => hm b hb), b, h6, hm b h7, h8⟩

theorem ShelfAt.keep {F M : Nat → Prop} {w w' : World} {g : Nat} {S : Nat → Option Qu} (h : ShelfAt F w g S) (k : Keep M w w') (hm : ∀ b, F b → ¬ M b) : ShelfAt F w' g S := by
  obtain ⟨sc, cs, Fi, h1, h2, h3, h4, h5, h6, h7⟩ := h
  exact ⟨sc, cs, Fi, k.heap h1 (hm g h4), h2, h3, h4, h5, h6, fun i hi => (h7 i hi).keep k (fun b hb => hm b (h5 i b hb).1)⟩

theorem ShelfAt.mono {F F' : Nat → Prop} {w : World} {g : Nat} {S : Nat → Option Qu} (h : ShelfAt F w g S) (hm : ∀ b, F b → F' b) : ShelfAt F' w g S := by
  obtain ⟨sc, cs, Fi, h1, h2, h3, h4, h5, h6, h7⟩ := h
  exact ⟨sc, cs, Fi, h1, h2, h3, hm g h4, fun i k hk => ⟨hm k (h5 i k hk).1, (h5 i k hk).2⟩, h6, h7⟩

theorem SlotAt.lt {F : Nat → Prop} {w : World} {s : SC} {q : Option Qu} (h : SlotAt F w s q) : ∃ G : Nat → Prop, SlotAt G w s q ∧ ∀ k, G k → F k ∧ k < w.heap.size := by
  cases q with
  | none => exact ⟨fun _ => False, h, by simp⟩
  | some q =>
    obtain ⟨h1, h2, h3, h4, h5, b, h6, h7, h8⟩ := h
    exact ⟨fun k => F k ∧ k < w.heap.size, ⟨h1, h2, h3, h4, h5.mono (fun b hb hl => ⟨hb, hl⟩), b, h6, ⟨h7, h8.lt⟩, h8⟩, fun k hk => hk⟩

/-- S with another slot. -/
def put (S : Nat → Option Qu) (i : Nat) (q : Option Qu) : Nat → Option Qu := fun j => if j = i then q else S j

/-- One slot, taken out: and how it is laid back, changed. -/
theorem ShelfAt.focus {F : Nat → Prop} {w : World} {g : Nat} {S : Nat → Option Qu} (h : ShelfAt F w g S) (i : Nat) (hi : i < 8) :
    ∃ cs : Array Value, ∃ s : SC, ∃ G : Nat → Prop, w.heap[g]? = some (.cells cs 89 (0, 0)) ∧ cs.size = 40 ∧ cs[i * 5]? = some (.bool s.used) ∧ cs[i * 5 + 1]? = some (.string s.name) ∧ cs[i * 5 + 2]? = some (.int .i64 s.first) ∧
      cs[i * 5 + 3]? = some (.slice s.A s.n s.c) ∧ cs[i * 5 + 4]? = some (.map s.m) ∧ SlotAt G w s (S i) ∧ F g ∧ (∀ k, G k → F k ∧ k ≠ g) ∧
      ∀ (W : World) (cs' : Array Value) (s' : SC) (q' : Option Qu) (G' : Nat → Prop), W.heap[g]? = some (.cells cs' 89 (0, 0)) → cs'.size = 40 → (∀ j, j < 5 → cs'[i * 5 + j]? = some (s'.get j)) →
        (∀ k, (k < i * 5 ∨ i * 5 + 5 ≤ k) → cs'[k]? = cs[k]?) → Keep (fun k => k = g ∨ G k) w W → SlotAt G' W s' q' → (∀ k, G' k → G k ∨ (w.heap.size ≤ k ∧ k < W.heap.size)) → ShelfAt (fun k => F k ∨ G' k) W g (put S i q') := by
  obtain ⟨sc, cs, Fi, h1, h2, h3, h4, h5, h6, h7⟩ := h
  refine ⟨cs, sc i, Fi i, h1, h2, h3 i hi 0 (by omega), h3 i hi 1 (by omega), h3 i hi 2 (by omega), h3 i hi 3 (by omega), h3 i hi 4 (by omega), h7 i hi, h4, h5 i, ?_⟩
  intro W cs' s' q' G' e1 e2 e3 e4 k hs hG
  -- the other slots' footprints, cut to what was there
  refine ⟨fun j => if j = i then s' else sc j, cs', fun j b => if j = i then G' b ∧ b ≠ g else Fi j b ∧ b < w.heap.size, e1, e2, ?_, .inl h4, ?_, ?_, ?_⟩
  · intro j hj l hl
    by_cases hji : j = i
    · subst hji; simp only [if_true]; exact e3 l hl
    · simp only [if_neg hji]; rw [e4 _ (by omega)]; exact h3 j hj l hl
  · intro j b hb
    by_cases hji : j = i
    · simp only [if_pos hji] at hb
      exact ⟨.inr hb.1, hb.2⟩
    · simp only [if_neg hji] at hb; exact ⟨.inl (h5 j b hb.1).1, (h5 j b hb.1).2⟩
  · intro j l b hj hl
    by_cases hji : j = i <;> by_cases hli : l = i
    · omega
    · simp only [if_pos hji, if_neg hli] at hj hl
      rcases hG b hj.1 with hh | hh
      · exact absurd (h6 _ _ _ hh hl.1) (by omega)
      · have := hl.2; omega
    · simp only [if_pos hli, if_neg hji] at hj hl
      rcases hG b hl.1 with hh | hh
      · exact absurd (h6 _ _ _ hh hj.1) (by omega)
      · have := hj.2; omega
    · simp only [if_neg hji, if_neg hli] at hj hl; exact h6 _ _ _ hj.1 hl.1
  · intro j hj
    by_cases hji : j = i
    · subst hji
      simp only [put, if_true]
      cases q' with
      | none => exact hs
      | some q' =>
        obtain ⟨g1, g2, g3, g4, g5, b, g6, g7, g8⟩ := hs
        refine ⟨g1, g2, g3, g4, ⟨g5.1, fun b hb => ⟨g5.2 b hb, ?_⟩⟩, b, g6, ⟨g7, ?_⟩, g8⟩
        · rintro rfl; exact g5.ne_block e1 (by decide) hb
        · rintro rfl
          obtain ⟨_, _, g9, _⟩ := g8
          rw [e1] at g9; cases g9
    · simp only [put, if_neg hji]
      have hk := (h7 j hj).keep k (fun b hb => by
        rintro (rfl | hb')
        · exact (h5 j b hb).2 rfl
        · exact hji (h6 _ _ _ hb hb'))
      cases hq : S j with
      | none => rw [hq] at hk; exact hk
      | some q =>
        have hold := h7 j hj
        rw [hq] at hk hold
        obtain ⟨g1, g2, g3, g4, g5, b, g6, g7, g8⟩ := hk
        obtain ⟨_, _, _, _, o5, bo, o6, _, o8⟩ := hold
        rw [g6] at o6
        cases o6
        exact ⟨g1, g2, g3, g4, ⟨g5.1, fun b hb => ⟨g5.2 b hb, (o5.1.lt b hb).2⟩⟩, b, g6, ⟨g7, o8.lt⟩, g8⟩

theorem set_get (cs : Array Value) (p : Nat) (v : Value) (k : Nat) (hp : p < cs.size) : (cs.setIfInBounds p v)[k]? = if k = p then some v else cs[k]? := by
  rw [Array.getElem?_setIfInBounds]
  by_cases h : p = k
  · subst h; simp [hp]
  · rw [if_neg h, if_neg (fun e => h e.symm)]

/-! A block behind stores, draws and new blocks: for simp. -/
theorem hp_drew (w : World) : w.drew.heap = w.heap := rfl
theorem hp_drewN (w : World) (n : Nat) : (w.drewN n).heap = w.heap := rfl
theorem hp_set_other {w : World} {b o k : Nat} (h : k ≠ b) (v : Value) : (w.setCell ⟨b, o, none⟩ v).heap[k]? = w.heap[k]? := Below.heap_setCell w ⟨b, o, none⟩ v k h
theorem hp_set_same {w : World} {b o : Nat} {cs : Array Value} {e : TypeId} {fz : Nat × Nat} (h : w.heap[b]? = some (.cells cs e fz)) (v : Value) : (w.setCell ⟨b, o, none⟩ v).heap[b]? = some (.cells (cs.setIfInBounds o v) e fz) := heap_setCell h v
theorem hp_alloc_lt {w : World} {k : Nat} (h : k < w.heap.size) (o : Obj) : (w.alloc o).heap[k]? = w.heap[k]? := Below.heap_alloc w o k h
theorem hp_alloc_new {w : World} {k : Nat} (h : k = w.heap.size) (o : Obj) : (w.alloc o).heap[k]? = some o := by subst h; exact heap_alloc_new w o
theorem hp_size_set {w : World} {a : Addr} {v : Value} : (w.setCell a v).heap.size = w.heap.size := by simp [World.setCell]

theorem mapAt_empty {α β : Type} {kf : α → Value} {vf : β → Value} {w : World} {b : Nat} (h : w.heap[b]? = some (.map #[] 0)) : MapAt kf vf w b [] := ⟨[], 0, by rw [h]; simp [ents], rfl, List.Pairwise.nil, by simp, by simp⟩

theorem MapAt.ne_row {α β : Type} {kf : α → Value} {vf : β → Value} {F : Nat → Prop} {w : World} {b e size n : Nat} {m : List (α × β)} {v : Value} {xs : List Value} (h : MapAt kf vf w b m) (r : Row F w e size v n xs) : v.ownBlock ≠ some b := by
  obtain ⟨s, c, h1, _⟩ := h
  rcases r.1.2 with ⟨rfl, _⟩ | ⟨g', cap, cur, rfl, _, hh, _⟩
  · simp [Value.ownBlock]
  · intro he
    have : g' = b := by simpa [Value.ownBlock] using he
    subst this
    rw [hh] at h1; cases h1

/-- One cell of a slot written. -/
theorem set1_spec (cs : Array Value) (i j0 : Nat) (v : Value) (s s' : SC) (hz : cs.size = 40) (hi : i < 8) (hj0 : j0 < 5) (h0 : cs[i * 5]? = some (s.get 0)) (h1 : cs[i * 5 + 1]? = some (s.get 1)) (h2 : cs[i * 5 + 2]? = some (s.get 2))
    (h3 : cs[i * 5 + 3]? = some (s.get 3)) (h4 : cs[i * 5 + 4]? = some (s.get 4)) (hs : s'.get j0 = v) (hn : ∀ j, j < 5 → j ≠ j0 → s'.get j = s.get j) :
    (cs.setIfInBounds (i * 5 + j0) v).size = 40 ∧ (∀ j, j < 5 → (cs.setIfInBounds (i * 5 + j0) v)[i * 5 + j]? = some (s'.get j)) ∧ ∀ k, (k < i * 5 ∨ i * 5 + 5 ≤ k) → (cs.setIfInBounds (i * 5 + j0) v)[k]? = cs[k]? := by
  refine ⟨by simp [hz], fun j hj => ?_, fun k hk => ?_⟩
  · rw [set_get _ _ _ _ (by omega)]
    by_cases hjj : j = j0
    · subst hjj; rw [if_pos rfl, hs]
    · rw [if_neg (by omega), hn j hj hjj]
      have hj' : j = 0 ∨ j = 1 ∨ j = 2 ∨ j = 3 ∨ j = 4 := by omega
      rcases hj' with rfl | rfl | rfl | rfl | rfl <;> assumption
  · rw [set_get _ _ _ _ (by omega), if_neg (by omega)]

theorem sc3 (s : SC) (A : Option Addr) (n c : Nat) : ∀ j, j < 5 → j ≠ 3 → (⟨s.used, s.name, s.first, A, n, c, s.m⟩ : SC).get j = s.get j := by
  intro j hj hne
  have hj' : j = 0 ∨ j = 1 ∨ j = 2 ∨ j = 4 := by omega
  rcases hj' with rfl | rfl | rfl | rfl <;> rfl

/-- len of a map, where the operation is guarded. -/
theorem wpList_mlen' {α β : Type} {kf : α → Value} {vf : β → Value} {P : Program} {w : World} {k e t : TypeId} {ops : Array Oper} {rest : List Oper} {o : Oper} {a : Act} {Q : Exit → Act → World → Prop} (hw : Region.wanted o (yielded ops a.tmps) = true) (mo : Operand)
    (hop : o.op = .call { callee := .builtin .len, args := #[mo], argTypes := #[t] }) (ht : P.underlying t = some (.map k e)) {b : Nat} {m : List (α × β)}
    (hown : MapAt kf vf w b m) (hm : a.eval mo = .map (some b)) (h : wpList P ops Q rest (a.put o.dst (.int .i64 m.length)) w) : wpList P ops Q (o :: rest) a w := by
  refine wpList_step fun K' hK' => ?_
  rw [if_pos hw]
  unfold Oper.wp
  simp [execOp, hop, resolve, invoke, builtin, hm, hown.len ht, Result.andThen]
  exact hK' _ _ h

theorem Src.cut {w : World} {b o n c lo hi c' : Nat} {xs : List Value} (h : Src w 1 (.slice (some ⟨b, o, none⟩) n c) n xs) (h1 : lo ≤ hi) (h2 : hi ≤ n) : Src w 1 (.slice (some ⟨b, o + lo, none⟩) (hi - lo) c') (hi - lo) ((xs.drop lo).take (hi - lo)) := by
  obtain ⟨e1, e2, A, c0, hv, hA⟩ := h
  have el : xs.length = n := by simpa using e1
  refine ⟨by simp; omega, fun u hu => e2 u (List.mem_of_mem_drop (List.mem_of_mem_take hu)), _, _, rfl, ?_⟩
  rcases hA with rfl | ⟨b', o', e, hc⟩
  · exact .inl (by omega)
  · simp only [Value.slice.injEq] at hv
    rw [e] at hv
    simp only [Option.some.injEq, Addr.mk.injEq] at hv
    obtain ⟨⟨rfl, rfl, _⟩, _⟩ := hv
    refine .inr ⟨_, _, rfl, fun j u hu => ?_⟩
    rw [List.getElem?_take] at hu
    split at hu
    · rw [List.getElem?_drop] at hu
      have := hc (lo + j) u hu
      rwa [← Nat.add_assoc] at this
    · cases hu

theorem Src.keepK {w w1 : World} {size n : Nat} {v : Value} {xs : List Value} (h : Src w size v n xs) (k : Keep (fun _ => False) w w1) : Src w1 size v n xs :=
  h.keepAll fun a u hu => (k.cell (World.block_lt_of_cell? w a hu) (fun h => h)).trans hu

theorem Row.pos {F : Nat → Prop} {w : World} {e size n : Nat} {v : Value} {xs : List Value} (h : Row F w e size v n xs) (hn : 0 < n) : ∃ g cap, v = .slice (some ⟨g, 0, none⟩) n cap ∧ n ≤ cap ∧ cap ≤ maxLen := by
  rcases h.1.2 with ⟨_, rfl⟩ | ⟨g, cap, cur, rfl, _, _, hnc, hcm, _⟩
  · omega
  · exact ⟨g, cap, rfl, hnc, hcm⟩

/-- Five cells written. -/
def set5 (cs : Array Value) (i : Nat) (s : SC) : Array Value := ((((cs.setIfInBounds (i * 5) (s.get 0)).setIfInBounds (i * 5 + 1) (s.get 1)).setIfInBounds (i * 5 + 2) (s.get 2)).setIfInBounds (i * 5 + 3) (s.get 3)).setIfInBounds (i * 5 + 4) (s.get 4)
theorem set5_spec (cs : Array Value) (i : Nat) (s : SC) (hz : cs.size = 40) (hi : i < 8) : (set5 cs i s).size = 40 ∧ (∀ j, j < 5 → (set5 cs i s)[i * 5 + j]? = some (s.get j)) ∧ ∀ k, (k < i * 5 ∨ i * 5 + 5 ≤ k) → (set5 cs i s)[k]? = cs[k]? := by
  have key : ∀ k, (set5 cs i s)[k]? = if k = i * 5 + 4 then some (s.get 4) else if k = i * 5 + 3 then some (s.get 3) else if k = i * 5 + 2 then some (s.get 2) else if k = i * 5 + 1 then some (s.get 1) else if k = i * 5 then some (s.get 0) else cs[k]? := by
    intro k
    unfold set5
    rw [set_get _ _ _ _ (by simp; omega), set_get _ _ _ _ (by simp; omega), set_get _ _ _ _ (by simp; omega), set_get _ _ _ _ (by simp; omega), set_get _ _ _ _ (by omega)]
  refine ⟨by simp [set5, hz], ?_, ?_⟩
  · intro j hj
    rw [key]
    have hj' : j = 0 ∨ j = 1 ∨ j = 2 ∨ j = 3 ∨ j = 4 := by omega
    rcases hj' with rfl | rfl | rfl | rfl | rfl <;> simp
  · intro k hk
    rw [key, if_neg (by omega), if_neg (by omega), if_neg (by omega), if_neg (by omega), if_neg (by omega)]

/-- What a walk wants to know of one slot that holds a queue. -/
theorem ShelfAt.slot {F : Nat → Prop} {w : World} {g : Nat} {S : Nat → Option Qu} (h : ShelfAt F w g S) (i : Nat) (hi : i < 8) :
    ∃ cs : Array Value, ∃ s : SC, (∀ o, w.cell? ⟨g, o, none⟩ = cs[o]?) ∧ (∀ o, w.frozen? ⟨g, o, none⟩ = false) ∧ cs[i * 5]? = some (.bool s.used) ∧ cs[i * 5 + 1]? = some (.string s.name) ∧ cs[i * 5 + 2]? = some (.int .i64 s.first) ∧
      cs[i * 5 + 3]? = some (.slice s.A s.n s.c) ∧ cs[i * 5 + 4]? = some (.map s.m) ∧ SlotAt F w s (S i) := by
  obtain ⟨sc, cs, Fi, h1, h2, h3, h4, h5, h6, h7⟩ := h
  have ⟨hc, hf⟩ := cells_of_heap h1
  exact ⟨cs, sc i, hc, hf, h3 i hi 0 (by omega), h3 i hi 1 (by omega), h3 i hi 2 (by omega), h3 i hi 3 (by omega), h3 i hi 4 (by omega), (h7 i hi).mono (fun b hb => (h5 i b hb).1)⟩

theorem new_shelf (w : World) : Calls Try.prog 11 #[] w fun e w' => e = .returned (.pointer (some ⟨w.heap.size, 0, none⟩)) ∧ ShelfAt (Made w w') w' w.heap.size (fun _ => none) ∧ Below w.heap.size w w' := by
  go_enter Try.func11, Try.ntmps11
  go_wp2
  go_ret
  refine ⟨rfl, ⟨fun _ => SC.zero, _, fun _ _ => False, heap_alloc_new w _, rfl, ?_, ⟨Nat.le_refl _, by simp⟩, by simp, by simp, fun _ _ => rfl⟩, (Below.refl _ _).alloc (Nat.le_refl _) _⟩
  intro i hi j hj
  have : ∀ i : Fin 8, ∀ j : Fin 5, i.val * 5 + j.val < 40 := by decide
  have hi' : i = 0 ∨ i = 1 ∨ i = 2 ∨ i = 3 ∨ i = 4 ∨ i = 5 ∨ i = 6 ∨ i = 7 := by omega
  have hj' : j = 0 ∨ j = 1 ∨ j = 2 ∨ j = 3 ∨ j = 4 := by omega
  rcases hi' with rfl | rfl | rfl | rfl | rfl | rfl | rfl | rfl <;> rcases hj' with rfl | rfl | rfl | rfl | rfl <;> rfl

theorem end_any (w : World) (u : Bool) (nm : ByteArray) (f n c : Nat) (A : Option Addr) (m : Option Nat) (hf : f ≤ 2000000000000) (hn : n ≤ 2000000000000) :
    Calls Try.prog 82 #[.agg #[.bool u, .string nm, .int .i64 f, .slice A n c, .map m]] w fun e w' => e = .returned (.int .i64 ((f + n : Nat) : Int)) ∧ Below w.heap.size w w' := by
  go_enter Try.func82, Try.ntmps82
  go_wp2
  go_ret
  exact ⟨by simp, (Below.refl _ _).alloc (Nat.le_refl _) _⟩

/-- What an op's value is, laid open. -/
theorem count_any (F : Nat → Prop) (w : World) (g i : Nat) (S : Nat → Option Qu) (o : OpS) (q : Qu) (h : ShelfAt F w g S) (hi : i < 8) (hq : S i = some q) :
    Calls Try.prog 80 #[.pointer (some ⟨g, 0, none⟩), .int .i64 i, o.val] w fun e w' => e = .returned (.agg #[.int .i64 0, .int .i64 q.items.length, .slice none 0 0]) ∧ Below w.heap.size w w' := by
  have hg := h.lt
  obtain ⟨cs, s, hc, hf, h0, h1, h2, h3, h4, hs⟩ := h.slot i hi
  rw [hq] at hs
  obtain ⟨s1, s2, s3, s4, s5, b, s6, s7, s8⟩ := hs
  rw [← s4]
  unfold OpS.val
  clear s1 s2 s3 s4
  go_enter Try.func80, Try.ntmps80
  go_wp2
  exact bodyPost_ret (v := .agg #[.int .i64 0, .int .i64 s.n, .slice none 0 0]) (by simp [results, Try.results80, go_sem]) rfl ⟨rfl, ((Below.refl _ _).alloc (Nat.le_refl _) _).alloc (by simp) _⟩
end Go.Proofs.Ytfahakmnlmlgcaa
