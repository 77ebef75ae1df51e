/-
  Words on worlds that the contracts of this seat use: what a call may have changed (Keep), what it made (Grow), lists of bytes and of texts as cells.
  No program in sight.
-/
import Derived.WalkKit
import Derived.Maps.AppendAt
import Derived.Lib.AppendStr
import Derived.Laws.CopyOwn
namespace Go.Proofs.Ytfahakmnlmlgcaa
open Go.RowKit Go.Lib

/-- w' is w, but for blocks in M and for new ones. -/
structure Keep (M : Nat → Prop) (w w' : World) : Prop where
  os : w'.os = w.os
  tape : w'.tape = w.tape
  output : w'.output = w.output
  size : w.heap.size ≤ w'.heap.size
  block : ∀ k, k < w.heap.size → ¬ M k → w'.heap[k]? = w.heap[k]?

/-- F, and all that was made between two worlds. -/
def Grow (F : Nat → Prop) (w w' : World) (k : Nat) : Prop := F k ∨ (w.heap.size ≤ k ∧ k < w'.heap.size)

namespace Keep
variable {M N : Nat → Prop} {w w1 w2 : World}
theorem refl (M : Nat → Prop) (w : World) : Keep M w w := ⟨rfl, rfl, rfl, Nat.le_refl _, fun _ _ _ => rfl⟩
theorem trans (h : Keep M w w1) (h2 : Keep N w1 w2) (hn : ∀ k, k < w.heap.size → N k → M k) : Keep M w w2 :=
  ⟨h2.os.trans h.os, h2.tape.trans h.tape, h2.output.trans h.output, Nat.le_trans h.size h2.size,
    fun k hk hm => (h2.block k (Nat.lt_of_lt_of_le hk h.size) (fun hN => hm (hn k hk hN))).trans (h.block k hk hm)⟩
theorem mono (h : Keep M w w1) (hn : ∀ k, k < w.heap.size → M k → N k) : Keep N w w1 :=
  ⟨h.os, h.tape, h.output, h.size, fun k hk hm => h.block k hk (fun e => hm (hn k hk e))⟩
theorem of_below (h : Below w.heap.size w w1) : Keep M w w1 := ⟨h.os, h.tape, h.output, h.size, fun k hk _ => h.block k hk⟩
theorem below (h : Keep M w w1) (hn : ∀ k, k < w.heap.size → ¬ M k) : Below w.heap.size w w1 := ⟨h.os, h.tape, h.output, h.size, fun k hk => h.block k hk (hn k hk)⟩
theorem belowB {B : Nat} (h : Keep M w w1) (hB : B ≤ w.heap.size) (hn : ∀ k, k < B → ¬ M k) : Below B w w1 := ⟨h.os, h.tape, h.output, h.size, fun k hk => h.block k (by omega) (hn k hk)⟩
theorem drew (h : Keep M w w1) : Keep M w w1.drew := ⟨h.os, h.tape, h.output, h.size, h.block⟩
theorem alloc (h : Keep M w w1) (o : Obj) : Keep M w (w1.alloc o) :=
  ⟨h.os, h.tape, h.output, Nat.le_trans h.size (by simp), fun k hk hm => (Below.heap_alloc w1 o k (Nat.lt_of_lt_of_le hk h.size)).trans (h.block k hk hm)⟩
theorem setCell (h : Keep M w w1) {a : Addr} (ha : M a.block ∨ w.heap.size ≤ a.block) (u : Value) : Keep M w (w1.setCell a u) :=
  ⟨h.os, h.tape, h.output, by simpa [World.setCell] using h.size, fun k hk hm => (Below.heap_setCell w1 a u k (by rintro rfl; rcases ha with ha | ha; exact hm ha; omega)).trans (h.block k hk hm)⟩
theorem grown (h : Keep M w w1) {row : Option Nat} (hg : w1.grownBy w2 row) (hr : ∀ k, row = some k → M k ∨ w.heap.size ≤ k) : Keep M w w2 :=
  ⟨hg.os.trans h.os, hg.tape.trans h.tape, hg.output.trans h.output, Nat.le_trans h.size hg.size,
    fun k hk hm => (hg.block k (Nat.lt_of_lt_of_le hk h.size) (fun e => by rcases hr k e.symm with h1 | h1; exact hm h1; omega)).trans (h.block k hk hm)⟩
theorem cell (h : Keep M w w1) {a : Addr} (ha : a.block < w.heap.size) (hm : ¬ M a.block) : w1.cell? a = w.cell? a := World.cell?_of_block (h.block _ ha hm)
theorem frozen (h : Keep M w w1) {a : Addr} (ha : a.block < w.heap.size) (hm : ¬ M a.block) : w1.frozen? a = w.frozen? a := World.frozen?_of_block (h.block _ ha hm)
theorem heap (h : Keep M w w1) {k : Nat} {o : Obj} (hk : w.heap[k]? = some o) (hm : ¬ M k) : w1.heap[k]? = some o :=
  (h.block k (Array.getElem?_eq_some_iff.1 hk).1 hm).trans hk
theorem row (h : Keep M w w1) {base e size n : Nat} {v : Value} {xs : List Value} (hown : w.ownsRow base e size v n xs) (hm : ∀ k, v.ownBlock = some k → ¬ M k) : w1.ownsRow base e size v n xs := by
  refine ⟨hown.1, ?_⟩
  rcases hown.2 with hn | ⟨g, cap, cur, rfl, hb, hgg, rest⟩
  · exact .inl hn
  · exact .inr ⟨g, cap, cur, rfl, hb, h.heap hgg (hm g rfl), rest⟩
end Keep

theorem Grow.lt {F : Nat → Prop} {w w' : World} (hF : ∀ k, F k → k < w.heap.size) (hs : w.heap.size ≤ w'.heap.size) : ∀ k, Grow F w w' k → k < w'.heap.size := by
  rintro k (h | h)
  · exact Nat.lt_of_lt_of_le (hF k h) hs
  · exact h.2
theorem Grow.not {F : Nat → Prop} {w w' : World} {k : Nat} (hk : k < w.heap.size) (hF : ¬ F k) : ¬ Grow F w w' k := by
  rintro (h | h)
  · exact hF h
  · omega

/-- A block of cells: each of its cells, and none frozen. -/
theorem cells_of_heap {w : World} {g : Nat} {cs : Array Value} {e : TypeId} (h : w.heap[g]? = some (.cells cs e (0, 0))) : (∀ o, w.cell? ⟨g, o, none⟩ = cs[o]?) ∧ (∀ o, w.frozen? ⟨g, o, none⟩ = false) := by
  refine ⟨fun o => by simp [World.cell?, h], fun o => by simp [World.frozen?, h]⟩
theorem lt_of_heap {w : World} {g : Nat} {o : Obj} (h : w.heap[g]? = some o) : g < w.heap.size := (Array.getElem?_eq_some_iff.1 h).1
theorem heap_setCell {w : World} {g o : Nat} {cs : Array Value} {e : TypeId} {fz : Nat × Nat} (h : w.heap[g]? = some (.cells cs e fz)) (v : Value) : (w.setCell ⟨g, o, none⟩ v).heap[g]? = some (.cells (cs.setIfInBounds o v) e fz) := by
  simp [World.setCell, Array.getElem?_modify, h]
theorem heap_setCell_other {w : World} {a : Addr} {k : Nat} (h : k ≠ a.block) (v : Value) : (w.setCell a v).heap[k]? = w.heap[k]? := Below.heap_setCell w a v k h

/-- Bytes as cells. -/
def bytesV (l : List UInt8) : List Value := l.map fun b => Value.int .u8 b.toNat
@[simp] theorem bytesV_length (l : List UInt8) : (bytesV l).length = l.length := by simp [bytesV]
theorem bytesV_append (a b : List UInt8) : bytesV (a ++ b) = bytesV a ++ bytesV b := by simp [bytesV]
/-- Texts as cells. -/
def textsV (l : List ByteArray) : List Value := l.map Value.string
@[simp] theorem textsV_length (l : List ByteArray) : (textsV l).length = l.length := by simp [textsV]
theorem textsV_append (a b : List ByteArray) : textsV (a ++ b) = textsV a ++ textsV b := by simp [textsV]

theorem Grow.sub {F F' : Nat → Prop} {w w' w1 W : World} (hF : ∀ k, F' k → Grow F w W k) (h1 : w.heap.size ≤ w'.heap.size) (h2 : w1.heap.size ≤ W.heap.size) : ∀ k, Grow F' w' w1 k → Grow F w W k := by
  rintro k (h | h)
  · exact hF k h
  · exact .inr ⟨by omega, by omega⟩
theorem Grow.up {F : Nat → Prop} {w w1 W : World} (h : w1.heap.size ≤ W.heap.size) : ∀ k, Grow F w w1 k → Grow F w W k := by
  rintro k (h' | h')
  · exact .inl h'
  · exact .inr ⟨h'.1, by omega⟩

/-- The value v owns the row xs; its block lies in F. -/
def Row (F : Nat → Prop) (w : World) (e : TypeId) (size : Nat) (v : Value) (n : Nat) (xs : List Value) : Prop := w.ownsRow 0 e size v n xs ∧ ∀ k, v.ownBlock = some k → F k

/-- The value v reads as the cells xs (n elements of so many cells). -/
def Src (w : World) (size : Nat) (v : Value) (n : Nat) (xs : List Value) : Prop :=
  xs.length = n * size ∧ (∀ u ∈ xs, u.oneCell' = true) ∧ ∃ A c, v = .slice A n c ∧ (n = 0 ∨ ∃ b o, A = some ⟨b, o, none⟩ ∧ ∀ j u, xs[j]? = some u → w.cell? ⟨b, o + j, none⟩ = some u)

theorem lt_of_owns {w : World} {base e size n : Nat} {v : Value} {xs : List Value} (h : w.ownsRow base e size v n xs) : ∀ k, v.ownBlock = some k → k < w.heap.size := fun k hk => (h.lt k hk).2
theorem slice_of_owns {w : World} {base e size n : Nat} {v : Value} {xs : List Value} (h : w.ownsRow base e size v n xs) : ∃ a cap, v = .slice a n cap := by
  rcases h.2 with ⟨rfl, rfl⟩ | ⟨g, cap, cur, rfl, _⟩
  · exact ⟨none, 0, rfl⟩
  · exact ⟨_, _, rfl⟩

namespace Row
variable {F M G : Nat → Prop} {w w1 : World} {e size n : Nat} {v : Value} {xs : List Value}
theorem keep (h : Row F w e size v n xs) (k : Keep M w w1) (hm : ∀ b, F b → ¬ M b) : Row F w1 e size v n xs := ⟨k.row h.1 fun b hb => hm b (h.2 b hb), h.2⟩
theorem mono (h : Row F w e size v n xs) (hm : ∀ b, F b → b < w.heap.size → G b) : Row G w e size v n xs := ⟨h.1, fun b hb => hm b (h.2 b hb) (h.1.lt b hb).2⟩
theorem grow (h : Row F w e size v n xs) (w0 w1 : World) : Row (Grow F w0 w1) w e size v n xs := ⟨h.1, fun b hb => .inl (h.2 b hb)⟩
theorem alloc (h : Row F w e size v n xs) (o : Obj) : Row F (w.alloc o) e size v n xs := ⟨h.1.alloc o, h.2⟩
theorem drew (h : Row F w e size v n xs) : Row F w.drew e size v n xs := h
theorem far (h : Row F w e size v n xs) {a : Addr} (ha : ¬ F a.block) (u : Value) : Row F (w.setCell a u) e size v n xs :=
  h.keep ((Keep.refl (fun k => k = a.block) w).setCell (.inl rfl) u) (fun _ hb e => ha (e ▸ hb))
theorem nil (F : Nat → Prop) (w : World) (e size : Nat) : Row F w e size (.slice none 0 0) 0 [] := ⟨World.ownsRow_nil w 0 e size, fun k hk => by simp [Value.ownBlock] at hk⟩
theorem ne_block (h : Row F w e size v n xs) {g : Nat} {cs : Array Value} {t : TypeId} {fz : Nat × Nat} (hg : w.heap[g]? = some (.cells cs t fz)) (hne : e ≠ t) : v.ownBlock ≠ some g := by
  rcases h.1.2 with ⟨rfl, _⟩ | ⟨g', cap, cur, rfl, _, hh, _⟩
  · simp [Value.ownBlock]
  · intro he
    have : g' = g := by simpa [Value.ownBlock] using he
    subst this
    rw [hh] at hg
    injection hg with hg
    injection hg with _ ht
    exact hne ht
theorem form (h : Row F w e size v n xs) : ∃ a cap, v = .slice a n cap := slice_of_owns h.1
end Row

namespace Src
variable {F M : Nat → Prop} {w w1 : World} {e size n : Nat} {v : Value} {xs : List Value}
theorem add_lit (g o j : Nat) : (⟨g, o, none⟩ : Addr).add j = ⟨g, o + j, none⟩ := by unfold Addr.add; split <;> simp_all
theorem nil (w : World) (size : Nat) (A : Option Addr) (c : Nat) : Src w size (.slice A 0 c) 0 [] := ⟨by simp, by simp, A, c, rfl, .inl rfl⟩
/-- A new block of one element. -/
theorem new (w : World) (cs : Array Value) (t : TypeId) (h : ∀ u ∈ cs.toList, u.oneCell' = true) : Src (w.alloc (.cells cs t)) cs.size (.slice (some ⟨w.heap.size, 0, none⟩) 1 1) 1 cs.toList := by
  refine ⟨by simp, h, _, _, rfl, .inr ⟨_, _, rfl, fun j u hu => ?_⟩⟩
  rw [cell_of_row _ w.heap.size (0 + j) cs t (0, 0) (heap_alloc_new w _)]
  simpa using hu
theorem one (w : World) (x : Value) (t : TypeId) (h : x.oneCell' = true) : Src (w.alloc (.cells #[x] t)) 1 (.slice (some ⟨w.heap.size, 0, none⟩) 1 1) 1 [x] := new w #[x] t (by simpa using h)
theorem keepAll (h : Src w size v n xs) (hk : ∀ a u, w.cell? a = some u → w1.cell? a = some u) : Src w1 size v n xs := by
  obtain ⟨h1, h2, A, c, hv, hA⟩ := h
  refine ⟨h1, h2, A, c, hv, ?_⟩
  rcases hA with hA | ⟨b, o, e, hc⟩
  · exact .inl hA
  · exact .inr ⟨b, o, e, fun j u hu => hk _ _ (hc j u hu)⟩
theorem alloc (h : Src w size v n xs) (o : Obj) : Src (w.alloc o) size v n xs :=
  h.keepAll fun a u hu => by rw [World.cell?_alloc_lt w o a (World.block_lt_of_cell? w a hu)]; exact hu
theorem below (h : Src w size v n xs) (hb : Below w.heap.size w w1) : Src w1 size v n xs :=
  h.keepAll fun a u hu => by rw [hb.cell (World.block_lt_of_cell? w a hu)]; exact hu
theorem of_row (h : Row F w e size v n xs) (h1 : ∀ u ∈ xs, u.oneCell' = true) : Src w size v n xs := by
  refine ⟨h.1.1, h1, ?_⟩
  rcases h.1.2 with ⟨rfl, rfl⟩ | ⟨g, cap, cur, rfl, _⟩
  · exact ⟨none, 0, rfl, .inl rfl⟩
  · exact ⟨_, _, rfl, .inr ⟨_, _, rfl, fun j u hu => by rw [← add_lit]; exact h.1.cells (g := g) rfl j u hu⟩⟩
theorem form (h : Src w size v n xs) : ∃ A c, v = .slice A n c := let ⟨_, _, A, c, hv, _⟩ := h; ⟨A, c, hv⟩
end Src

section app
variable {P : Program} {w : World}

theorem app_none (t ty e : TypeId) (i : TypeInfo) (ht : P.underlying t = some (.slice e)) (hi : P.info? e = some i) {size n : Nat} {v : Value} {xs : List Value} (hown : w.ownsRow 0 e size v n xs) (c : Nat) :
    (Builtin.append_ #[t, t] ty #[v, .slice none 0 c]).run P w = .ok v w := by
  rcases hown.2 with ⟨rfl, rfl⟩ | ⟨g, cap, cur, rfl, _, _, hnc, _⟩
  · simp [Builtin.append_, run_underlying ht, sizeOf, typeInfo, hi, Builtin.lenOf, Builtin.firstCells]
  · simp [Builtin.append_, run_underlying ht, sizeOf, typeInfo, hi, Builtin.lenOf, Builtin.firstCells, hnc, storeCells]

/-- append, told of the rows alone. -/
theorem run_app (t ty e : TypeId) (i : TypeInfo) (z : Value) (size bytes : Nat) (ht : P.underlying t = some (.slice e)) (hi : P.info? e = some i) (hz : i.zero = some z) (hsize : i.size = size) (hby : i.bytes = bytes)
    (hzs : z.cells.size = size) (hsz : 0 < size) {F : Nat → Prop} {v u : Value} {n m : Nat} {xs news : List Value} (hrow : Row F w e size v n xs) (hsrc : Src w size u m news)
    (h63 : n + m ≤ maxLen) (hbytes : (n + m) * bytes ≤ 140737488355328) :
    ∃ A c w', (Builtin.append_ #[t, t] ty #[v, u]).run P w = .ok (.slice A (n + m) c) w' ∧ Row (Grow F w w') w' e size (.slice A (n + m) c) (n + m) (xs ++ news) ∧ w.grownBy w' v.ownBlock := by
  obtain ⟨hl, h1, A, c, rfl, hA⟩ := hsrc
  have key : (A = none ∧ m = 0) ∨ ∃ ad, A = some ad ∧ ∀ j u, news[j]? = some u → w.cell? (ad.add j) = some u := by
    rcases hA with rfl | ⟨b, o, rfl, hc⟩
    · obtain rfl : news = [] := List.eq_nil_of_length_eq_zero (by simpa using hl)
      rcases A with _ | ad
      · exact .inl ⟨rfl, rfl⟩
      · exact .inr ⟨ad, rfl, fun j u hu => by simp at hu⟩
    · exact .inr ⟨_, rfl, fun j u hu => by rw [Src.add_lit]; exact hc j u hu⟩
  rcases key with ⟨rfl, rfl⟩ | ⟨ad, rfl, hc⟩
  · obtain rfl : news = [] := List.eq_nil_of_length_eq_zero (by simpa using hl)
    obtain ⟨a0, c0, hv⟩ := hrow.form
    refine ⟨a0, c0, w, ?_, ?_, ⟨rfl, rfl, rfl, Nat.le_refl _, fun _ _ _ => rfl⟩⟩
    · rw [app_none t ty e i ht hi hrow.1 c, Nat.add_zero, hv]
    · rw [List.append_nil, Nat.add_zero, ← hv]; exact hrow.grow w w
  · obtain ⟨v', w', hr, h2, h3, _, h5⟩ := run_append_own_at (P := P) w 0 t ty e i z size bytes ht hi hz hsize hby hzs hsz v n xs hrow.1 ad m c news hl hc h1 h63 hbytes (Nat.zero_le _)
    obtain ⟨a0, c0, rfl⟩ := slice_of_owns h2
    refine ⟨a0, c0, w', hr, ⟨h2, fun k hk => ?_⟩, h3⟩
    rcases h5 with h5 | h5
    · exact .inl (hrow.2 k (h5 ▸ hk))
    · exact .inr ⟨by rw [h5] at hk; injection hk with hk; omega, (h2.lt k hk).2⟩

theorem wpList_app {ops : Array Oper} {rest : List Oper} {o : Oper} {a : Act} {Q : Exit → Act → World → Prop} (hgd : o.guard = none) (s x : Operand) (t : TypeId)
    (ho : o.op = .call { callee := .builtin .append, args := #[s, x], argTypes := #[t, t] })
    (e : TypeId) (i : TypeInfo) (z : Value) (size bytes : Nat) (ht : P.underlying t = some (.slice e)) (hi : P.info? e = some i) (hz : i.zero = some z) (hsize : i.size = size) (hby : i.bytes = bytes)
    (hzs : z.cells.size = size) (hsz : 0 < size) {F : Nat → Prop} {v u : Value} {n m : Nat} {xs news : List Value} (hrow : Row F w e size v n xs) (hsrc : Src w size u m news)
    (hs : a.eval s = v) (hx : a.eval x = u) (h63 : n + m ≤ maxLen) (hbytes : (n + m) * bytes ≤ 140737488355328)
    (h : ∀ A c w', Row (Grow F w w') w' e size (.slice A (n + m) c) (n + m) (xs ++ news) → w.grownBy w' v.ownBlock → wpList P ops Q rest (a.put o.dst (.slice A (n + m) c)) w') : wpList P ops Q (o :: rest) a w :=
  wpList_plain hgd fun _ hK => by
    obtain ⟨A, c, w', hr, h2, h3⟩ := run_app (P := P) t o.type e i z size bytes ht hi hz hsize hby hzs hsz hrow hsrc h63 hbytes
    unfold Oper.wp execOp
    simp only [ho, resolve, invoke, builtin, Sem.run_bind, Sem.run_pure, Result.andThen_ok, List.map_toArray, List.map_cons, List.map_nil, hs, hx, hr]
    exact hK _ _ (h A c w' h2 h3)

/-- append, as one step of a region that draws its order. -/
theorem step_app {ops : Array Oper} {o : Oper} {a : Act} {K : Act → World → Prop} {Q : Exit → Act → World → Prop} {E : Prop} (hgd : o.guard = none) (s x : Operand) (t : TypeId)
    (ho : o.op = .call { callee := .builtin .append, args := #[s, x], argTypes := #[t, t] })
    (e : TypeId) (i : TypeInfo) (z : Value) (size bytes : Nat) (ht : P.underlying t = some (.slice e)) (hi : P.info? e = some i) (hz : i.zero = some z) (hsize : i.size = size) (hby : i.bytes = bytes)
    (hzs : z.cells.size = size) (hsz : 0 < size) {F : Nat → Prop} {v u : Value} {n m : Nat} {xs news : List Value} (hrow : Row F w e size v n xs) (hsrc : Src w size u m news)
    (hs : a.eval s = v) (hx : a.eval x = u) (h63 : n + m ≤ maxLen) (hbytes : (n + m) * bytes ≤ 140737488355328)
    (h : ∀ A c w', Row (Grow F w w') w' e size (.slice A (n + m) c) (n + m) (xs ++ news) → w.grownBy w' v.ownBlock → K (a.put o.dst (.slice A (n + m) c)) w') :
    if Region.wanted o (yielded ops a.tmps) = true then Oper.wp P o a w K Q else E := by
  have hw : Region.wanted o (yielded ops a.tmps) = true := by simp [Region.wanted, hgd]
  rw [if_pos hw]
  obtain ⟨A, c, w', hr, h2, h3⟩ := run_app (P := P) t o.type e i z size bytes ht hi hz hsize hby hzs hsz hrow hsrc h63 hbytes
  unfold Oper.wp execOp
  simp only [ho, resolve, invoke, builtin, Sem.run_bind, Sem.run_pure, Result.andThen_ok, List.map_toArray, List.map_cons, List.map_nil, hs, hx, hr]
  exact h A c w' h2 h3

/-- append of a text's bytes. -/
theorem run_app_str (t tu ty e : TypeId) (i : TypeInfo) (ht : P.underlying t = some (.slice e)) (hu : P.underlying tu = some .string) (hi : P.info? e = some i) (hz : i.zero = some (.int .u8 0))
    (hsize : i.size = 1) (hby : i.bytes = 1) {F : Nat → Prop} {v : Value} {n : Nat} {xs : List Value} (hrow : Row F w e 1 v n xs) (s : ByteArray) (hbytes : n + s.size ≤ 140737488355328) :
    ∃ A c w', (Builtin.append_ #[t, tu] ty #[v, .string s]).run P w = .ok (.slice A (n + s.size) c) w' ∧ Row (Grow F w w') w' e 1 (.slice A (n + s.size) c) (n + s.size) (xs ++ strCells s) ∧ w.grownBy w' v.ownBlock := by
  have h63 : n + s.size ≤ maxLen := by unfold maxLen; omega
  obtain ⟨v', w', hr, h2, h3, h4⟩ := run_append_own_string (P := P) w 0 t tu ty e i ht hu hi hz hsize hby v n xs hrow.1 s h63 hbytes (Nat.zero_le _)
  obtain ⟨a0, c0, rfl⟩ := slice_of_owns h2
  refine ⟨a0, c0, w', hr, ⟨h2, ?_⟩, h3⟩
  have new : ∀ W, Result.ok (Value.slice a0 (n + s.size) c0) w' = Result.ok (Value.slice (some ⟨w.heap.size, 0, none⟩) (n + s.size) (grownCap w (n + s.size) W e)) (w.drew.alloc (.cells (xs.toArray ++ (strCells s).toArray ++ Builtin.zeroCells (Value.int .u8 0).cells (grownCap w (n + s.size) W e - (n + s.size))) e)) →
      ∀ k, (Value.slice a0 (n + s.size) c0).ownBlock = some k → Grow F w w' k := by
    intro W he k hk
    simp only [Result.ok.injEq, Value.slice.injEq] at he
    obtain ⟨⟨rfl, _, rfl⟩, rfl⟩ := he
    simp [Value.ownBlock] at hk
    subst hk
    exact .inr ⟨Nat.le_refl _, by simp⟩
  rcases hrow.1.2 with ⟨rfl, rfl⟩ | ⟨g, cap, cur, rfl, _, hg, hnc, hcm, hcs, htake⟩
  · obtain rfl : xs = [] := List.eq_nil_of_length_eq_zero (by simpa using hrow.1.1)
    by_cases h0 : s.size = 0
    · intro k hk
      have := h4.2 ⟨rfl, h0⟩
      rw [this] at hk
      simp [Value.ownBlock] at hk
    · have hr2 := run_append_nil_string (P := P) w t tu ty e i _ ht hu hi hz s (by omega) (by omega) (by rw [hby]; omega)
      have hz0 : 0 + s.size = s.size := Nat.zero_add _
      refine new 0 ?_
      rw [← hr]
      simp only [hz0]
      rw [hr2]
      have hm : (strCells s).toArray = s.data.map (fun b => Value.int .u8 b.toNat) := by apply Array.ext'; simp [strCells]
      rw [hm, Array.empty_append]
  · by_cases hroom : n + s.size ≤ cap
    · have hr2 := run_append_room_string (P := P) w t tu ty e i ht hu hi hsize g n cap cur hg s hroom (by omega)
      rw [hr] at hr2
      simp only [Result.ok.injEq, Value.slice.injEq] at hr2
      obtain ⟨⟨rfl, _, rfl⟩, _⟩ := hr2
      exact fun k hk => .inl (hrow.2 k hk)
    · have hr2 := run_append_grow_string (P := P) w t tu ty e i _ ht hu hi hz ⟨g, 0, none⟩ n cap xs (by rw [hsize]; exact hrow.1.1) (hrow.1.cells (g := g) rfl) s (by omega) (by omega) (growslice_fits (by omega) (by rw [hby]; omega))
      exact new cap (by rw [← hr, hr2])

theorem wpList_app_str {ops : Array Oper} {rest : List Oper} {o : Oper} {a : Act} {Q : Exit → Act → World → Prop} (hgd : o.guard = none) (sl x : Operand) (t tu : TypeId)
    (ho : o.op = .call { callee := .builtin .append, args := #[sl, x], argTypes := #[t, tu] })
    (e : TypeId) (i : TypeInfo) (ht : P.underlying t = some (.slice e)) (hu : P.underlying tu = some .string) (hi : P.info? e = some i) (hz : i.zero = some (.int .u8 0))
    (hsize : i.size = 1) (hby : i.bytes = 1) {F : Nat → Prop} {v : Value} {n : Nat} {xs : List Value} (hrow : Row F w e 1 v n xs) (s : ByteArray)
    (hs : a.eval sl = v) (hx : a.eval x = .string s) (hbytes : n + s.size ≤ 140737488355328)
    (h : ∀ A c w', Row (Grow F w w') w' e 1 (.slice A (n + s.size) c) (n + s.size) (xs ++ strCells s) → w.grownBy w' v.ownBlock → wpList P ops Q rest (a.put o.dst (.slice A (n + s.size) c)) w') : wpList P ops Q (o :: rest) a w :=
  wpList_plain hgd fun _ hK => by
    obtain ⟨A, c, w', hr, h2, h3⟩ := run_app_str (P := P) t tu o.type e i ht hu hi hz hsize hby hrow s hbytes
    unfold Oper.wp execOp
    simp only [ho, resolve, invoke, builtin, Sem.run_bind, Sem.run_pure, Result.andThen_ok, List.map_toArray, List.map_cons, List.map_nil, hs, hx, hr]
    exact hK _ _ (h A c w' h2 h3)

/-- copy of as many elements as there are. -/
theorem wpList_cp {ops : Array Oper} {rest : List Oper} {o : Oper} {a : Act} {Q : Exit → Act → World → Prop} (hgd : o.guard = none) (d s : Operand) (dT sT : TypeId)
    (ho : o.op = .call { callee := .builtin .copy, args := #[d, s], argTypes := #[dT, sT] }) (e : TypeId) (hu : P.underlying dT = some (.slice e)) (hsz : (P.info? e).map (·.size) = some 1)
    {F : Nat → Prop} {v u : Value} {n : Nat} {xs news : List Value} (hrow : Row F w e 1 v n xs) (hsrc : Src w 1 u n news) (hd : a.eval d = v) (hs : a.eval s = u)
    (h : ∀ w', Row F w' e 1 v n news → w.grownBy w' v.ownBlock → wpList P ops Q rest (a.put o.dst (goInt n)) w') : wpList P ops Q (o :: rest) a w := by
  obtain ⟨hl, h1, A, c, rfl, hA⟩ := hsrc
  have hl' : news.length = n := by simpa using hl
  subst hl'
  rcases hrow.1.2 with ⟨rfl, hn0⟩ | ⟨g, cap, cur, rfl, _, hg, hnc, hcm, hcs, htake⟩
  · have hl' := List.eq_nil_of_length_eq_zero (l := news) (by assumption)
    subst hl'
    exact wpList_copy_nothing hgd d s dT sT ho e hu hsz _ _ _ _ _ _ hd hs (by simp) (h w (Row.nil F w e 1) ⟨rfl, rfl, rfl, Nat.le_refl _, fun _ _ _ => rfl⟩)
  · have hfit : 0 + news.length ≤ cur.size := by omega
    rcases hA with hn0 | ⟨b, o, rfl, hc⟩
    · have hl' := List.eq_nil_of_length_eq_zero (l := news) (by assumption)
      subst hl'
      refine wpList_copy_nothing hgd d s dT sT ho e hu hsz _ _ _ _ _ _ hd hs (by simp) (h w ⟨⟨by simp, .inr ⟨g, cap, cur, rfl, Nat.zero_le _, hg, hnc, hcm, hcs, by simp⟩⟩, hrow.2⟩ ⟨rfl, rfl, rfl, Nat.le_refl _, fun _ _ _ => rfl⟩)
    · have hn : news.length = Nat.min news.length news.length := (Nat.min_self _).symm
      refine wpList_copy_own hgd d s dT sT ho e hu hsz g 0 news.length cap ⟨b, o, none⟩ news.length c hd hs cur e hg news hn (fun j u hu => by rw [Src.add_lit]; exact hc j u hu) hfit h1 ?_
      have hh := h (w.setRow g (cur.toList.take 0 ++ (news ++ cur.toList.drop (0 + news.length))).toArray) ⟨⟨by simp, .inr ⟨g, cap, _, rfl, Nat.zero_le _, setRow_heap w g cur _ e _ hg, hnc, hcm, ?_, ?_⟩⟩, hrow.2⟩
        ⟨rfl, rfl, rfl, by simp [World.setRow], fun k hk hne => setRow_other w g k _ (fun e => hne (by simp [Value.ownBlock, e]))⟩
      · exact hh
      · simp; omega
      · simp
end app

theorem toList_isEmpty (s : ByteArray) : s.toList.isEmpty = decide (s.size = 0) := by
  rw [ByteArray.toList_eq]
  cases h : s.data.toList with
  | nil => simp [ByteArray.size, Array.size_eq_length_toList, h]
  | cons a l => simp [ByteArray.size, Array.size_eq_length_toList, h]

/-- All that was made between two worlds. -/
def Made (w w' : World) (k : Nat) : Prop := w.heap.size ≤ k ∧ k < w'.heap.size
theorem Row.made {w w' : World} {e size n : Nat} {v : Value} {xs : List Value} (h : w'.ownsRow w.heap.size e size v n xs) : Row (Made w w') w' e size v n xs := by
  refine ⟨⟨h.1, ?_⟩, fun k hk => h.lt k hk⟩
  rcases h.2 with h2 | ⟨g, cap, cur, hv, _, r⟩
  · exact .inl h2
  · exact .inr ⟨g, cap, cur, hv, Nat.zero_le _, r⟩
end Go.Proofs.Ytfahakmnlmlgcaa
