/-
  The contract of Do.
-/
import Derived.Test.YtfahakmnlmlgcaaActW
import Derived.Deep.RegionHeld3
namespace Go.Proofs.Ytfahakmnlmlgcaa
open Go.RowKit Go.Lib
set_option linter.unusedVariables false
set_option linter.unusedSimpArgs false

/-- The doings, by kind. -/
def doT : Array Value := #[.nilFunc, .func (.func 74) #[] #[], .func (.func 75) #[] #[], .func (.func 76) #[] #[], .func (.func 77) #[] #[], .func (.func 78) #[] #[], .func (.func 79) #[] #[], .func (.func 80) #[] #[], .func (.func 81) #[] #[]]
theorem doT_one : doT.all (·.oneCell') = true := by
  first | rfl | (simp [doT, Value.oneCell']; done) | (simp [doT]; decide)
theorem doings_any (w : World) : Calls Try.prog 50 #[] w fun e w' => e = .returned (.agg doT) ∧ Below w.heap.size w w' := by
  have hth : (w.alloc (.cells #[.nilFunc, .nilFunc, .nilFunc, .nilFunc, .nilFunc, .nilFunc, .nilFunc, .nilFunc, .nilFunc] 96)).there w.heap.size 0 9 := by
    intro j hj
    have ⟨hc, hf⟩ := cells_of_heap (heap_alloc_new w (.cells #[.nilFunc, .nilFunc, .nilFunc, .nilFunc, .nilFunc, .nilFunc, .nilFunc, .nilFunc, .nilFunc] 96))
    refine ⟨?_, hf _⟩
    rw [hc]
    simp; omega
  go_enter Try.func50, Try.ntmps50
  go_wp2_with (refine wpList_store_mid rfl 96 _ _ rfl w.heap.size 0 doT rfl rfl hth (by kernel_rfl) doT_one ?_)
  have hr := World.rangeAt_setCells_same _ w.heap.size 0 doT.toList hth
  have hb : Below w.heap.size w ((w.alloc (.cells #[.nilFunc, .nilFunc, .nilFunc, .nilFunc, .nilFunc, .nilFunc, .nilFunc, .nilFunc, .nilFunc] 96)).setCells w.heap.size 0 doT.toList) := by
    have : Keep (fun _ => False) w ((w.alloc (.cells #[.nilFunc, .nilFunc, .nilFunc, .nilFunc, .nilFunc, .nilFunc, .nilFunc, .nilFunc, .nilFunc] 96)).setCells w.heap.size 0 doT.toList) := by
      simp only [doT, World.setCells]
      repeat (first | with_reducible exact Keep.refl _ _ | with_reducible refine Keep.alloc ?_ _ | with_reducible refine Keep.setCell ?_ (.inr (Nat.le_refl _)) _)
    exact this.below (fun _ _ h => h)
  generalize ((w.alloc (.cells #[.nilFunc, .nilFunc, .nilFunc, .nilFunc, .nilFunc, .nilFunc, .nilFunc, .nilFunc, .nilFunc] 96)).setCells w.heap.size 0 doT.toList) = W at hr hb ⊢
  have c : ∀ j v, doT.toList[j]? = some v → W.cell? ⟨w.heap.size, j, none⟩ = some v := fun j v h => by simpa using hr j v h
  refine bodyPost_ret (v := .agg doT) ?_ rfl ⟨rfl, hb⟩
  simp [results, Try.results50, go_sem, Act.put, c 0 _ rfl, c 1 _ rfl, c 2 _ rfl, c 3 _ rfl, c 4 _ rfl, c 5 _ rfl, c 6 _ rfl, c 7 _ rfl, c 8 _ rfl, doT]

theorem do_bad (w : World) (a : Value) (o : OpS) (hc : checkS o ≠ 0) : Calls Try.prog 12 #[a, o.val] w fun e w' => e = .returned (.tuple #[.agg #[.int .i64 0, .int .i64 0, .slice none 0 0], .int .i64 0, .int .i64 (checkS o)]) ∧ Below w.heap.size w w' := by
  have hck := fun W => check_any o W
  generalize checkS o = ck at hc hck ⊢
  unfold OpS.val at hck ⊢
  go_enter Try.func12, Try.ntmps12
  go_wp2_with (go_at_call 15; refine (hck _).mono ?_; rintro e w1 ⟨rfl, hbl⟩; have hgb := (hbl.block w.heap.size (by first | (simp; done) | (simp; omega) | omega)).trans ((hp_alloc_lt (by simp) _).trans (heap_alloc_new w _)); have ⟨cb, fb⟩ := cells_of_heap hgb; have hgc := (hbl.block (w.heap.size + 1) (by first | (simp; done) | (simp; omega) | omega)).trans (hp_alloc_new (by simp) _); have ⟨cc, fc⟩ := cells_of_heap hgc; have hz1 : w.heap.size + 1 < w1.heap.size := (by have := hbl.size; simp at this; omega); have hk1 : ∀ M, Keep M w w1 := fun M => (((Keep.refl M w).alloc _).alloc _).trans (Keep.of_below hbl) (fun _ _ h => h))
  refine bodyPost_ret (v := .tuple #[.agg #[.int .i64 0, .int .i64 0, .slice none 0 0], .int .i64 0, .int .i64 ck]) (by simp [results, Try.results12, go_sem, cc, hz1]) rfl ⟨rfl, ?_⟩
  (refine Keep.below (M := fun _ => False) ?_ (fun _ _ h => h)); (repeat (first | with_reducible exact Keep.refl _ _ | with_reducible exact hk1 _ | with_reducible exact hk2 | with_reducible refine Keep.drew ?_ | with_reducible refine Keep.alloc ?_ _ | with_reducible refine Keep.setCell ?_ (by first | exact Or.inl (Or.inl rfl) | exact Or.inl (Or.inr rfl) | exact Or.inl rfl | (right; simp; done) | (right; simp; omega) | (right; omega)) _))

theorem do_there (F : Nat → Prop) (w : World) (g : Nat) (S : Nat → Option Qu) (o : OpS) (h : ShelfAt F w g S) (hc : checkS o = 0) (hk : o.kind = 1) (j : Nat) (hf : firstK (isQ S o.name) = some j) :
    Calls Try.prog 12 #[.pointer (some ⟨g, 0, none⟩), o.val] w fun e w' => e = .returned (.tuple #[.agg #[.int .i64 2, .int .i64 0, .slice none 0 0], .int .i64 (-1), .int .i64 0]) ∧ Below w.heap.size w w' := by
  have hck := fun W => check_any o W
  rw [hc] at hck
  have hfd := fun W h => find_any F W g S h o.name
  rw [hf] at hfd
  simp only [optI] at hfd
  obtain ⟨kind, nm, tx, num, most⟩ := o
  obtain rfl : kind = 1 := hk
  unfold OpS.val at hck ⊢
  simp only at hfd hck
  have hg := h.lt
  go_enter Try.func12, Try.ntmps12
  go_wp2_with (first | (go_at_call 15; refine (hck _).mono ?_; rintro e w1 ⟨rfl, hbl⟩; have hgb := (hbl.block w.heap.size (by first | (simp; done) | (simp; omega) | omega)).trans ((hp_alloc_lt (by simp) _).trans (heap_alloc_new w _)); have ⟨cb, fb⟩ := cells_of_heap hgb; have hgc := (hbl.block (w.heap.size + 1) (by first | (simp; done) | (simp; omega) | omega)).trans (hp_alloc_new (by simp) _); have ⟨cc, fc⟩ := cells_of_heap hgc; have hz1 : w.heap.size + 1 < w1.heap.size := (by have := hbl.size; simp at this; omega); have hk1 : ∀ M, Keep M w w1 := fun M => (((Keep.refl M w).alloc _).alloc _).trans (Keep.of_below hbl) (fun _ _ h => h)) | (go_at_call 47; refine (hfd _ (h.keep (hk1 (fun _ => False)) (fun _ _ h => h))).mono ?_; rintro e w2 ⟨rfl, hb2⟩; have hgd := (hb2.block w.heap.size (by omega)).trans hgb; have ⟨cd, fd⟩ := cells_of_heap hgd; have hge := (hb2.block (w.heap.size + 1) (by omega)).trans hgc; have ⟨ce, fe⟩ := cells_of_heap hge; have hz2 := hb2.size; have hk2 : ∀ M, Keep M w w2 := fun M => (hk1 M).trans (Keep.of_below hb2) (fun _ _ h => h)))
  refine bodyPost_ret (v := .tuple #[.agg #[.int .i64 2, .int .i64 0, .slice none 0 0], .int .i64 (-1), .int .i64 0]) (by simp [results, Try.results12, go_sem, ce]) rfl ⟨rfl, ?_⟩
  refine Keep.below (M := fun _ => False) ?_ (fun _ _ h => h)
  (repeat (first | with_reducible exact Keep.refl _ _ | with_reducible exact hk1 _ | with_reducible exact hk2 | with_reducible refine Keep.drew ?_ | with_reducible refine Keep.alloc ?_ _ | with_reducible refine Keep.setCell ?_ (by first | exact Or.inl (Or.inl rfl) | exact Or.inl (Or.inr rfl) | exact Or.inl rfl | (right; simp; done) | (right; simp; omega) | (right; omega)) _))
  exact hk2 _

theorem do_full (F : Nat → Prop) (w : World) (g : Nat) (S : Nat → Option Qu) (o : OpS) (h : ShelfAt F w g S) (hc : checkS o = 0) (hk : o.kind = 1) (hf : firstK (isQ S o.name) = none) (hfr : firstK (isFree S) = none) :
    Calls Try.prog 12 #[.pointer (some ⟨g, 0, none⟩), o.val] w fun e w' => e = .returned (.tuple #[.agg #[.int .i64 3, .int .i64 0, .slice none 0 0], .int .i64 (-1), .int .i64 0]) ∧ Below w.heap.size w w' := by
  have hck := fun W => check_any o W
  rw [hc] at hck
  have hfd := fun W h => find_any F W g S h o.name
  rw [hf] at hfd
  simp only [optI] at hfd
  obtain ⟨kind, nm, tx, num, most⟩ := o
  obtain rfl : kind = 1 := hk
  unfold OpS.val at hck ⊢
  simp only at hfd hck
  have hg := h.lt
  go_enter Try.func12, Try.ntmps12
  go_wp2_with (first | (go_at_call 15; refine (hck _).mono ?_; rintro e w1 ⟨rfl, hbl⟩; have hgb := (hbl.block w.heap.size (by first | (simp; done) | (simp; omega) | omega)).trans ((hp_alloc_lt (by simp) _).trans (heap_alloc_new w _)); have ⟨cb, fb⟩ := cells_of_heap hgb; have hgc := (hbl.block (w.heap.size + 1) (by first | (simp; done) | (simp; omega) | omega)).trans (hp_alloc_new (by simp) _); have ⟨cc, fc⟩ := cells_of_heap hgc; have hz1 : w.heap.size + 1 < w1.heap.size := (by have := hbl.size; simp at this; omega); have hk1 : ∀ M, Keep M w w1 := fun M => (((Keep.refl M w).alloc _).alloc _).trans (Keep.of_below hbl) (fun _ _ h => h)) | (go_at_call 47; refine (hfd _ (h.keep (hk1 (fun _ => False)) (fun _ _ h => h))).mono ?_; rintro e w2 ⟨rfl, hb2⟩; have hgd := (hb2.block w.heap.size (by omega)).trans hgb; have ⟨cd, fd⟩ := cells_of_heap hgd; have hge := (hb2.block (w.heap.size + 1) (by omega)).trans hgc; have ⟨ce, fe⟩ := cells_of_heap hge; have hz2 := hb2.size; have hk2 : ∀ M, Keep M w w2 := fun M => (hk1 M).trans (Keep.of_below hb2) (fun _ _ h => h)) | (go_at_call 48; refine (index_free F _ g S (h.keep (hk2 (fun _ => False)) (fun _ _ h => h))).mono ?_; rw [hfr]; rintro e w3 ⟨rfl, hb3⟩; have hgf := (hb3.block w.heap.size (by omega)).trans hgd; have ⟨cf, ff⟩ := cells_of_heap hgf; have hgg := (hb3.block (w.heap.size + 1) (by omega)).trans hge; have ⟨cg, fg⟩ := cells_of_heap hgg; have hz3 := hb3.size; have hk3 : ∀ M, Keep M w w3 := fun M => (hk2 M).trans (Keep.of_below hb3) (fun _ _ h => h)))
  refine bodyPost_ret (v := .tuple #[.agg #[.int .i64 3, .int .i64 0, .slice none 0 0], .int .i64 (-1), .int .i64 0]) (by simp [results, Try.results12, go_sem, *]) rfl ⟨rfl, ?_⟩
  refine Keep.below (M := fun _ => False) ?_ (fun _ _ h => h)
  (repeat (first | with_reducible exact Keep.refl _ _ | with_reducible exact hk1 _ | with_reducible exact hk2 | with_reducible refine Keep.drew ?_ | with_reducible refine Keep.alloc ?_ _ | with_reducible refine Keep.setCell ?_ (by first | exact Or.inl (Or.inl rfl) | exact Or.inl (Or.inr rfl) | exact Or.inl rfl | (right; simp; done) | (right; simp; omega) | (right; omega)) _))
  first | exact hk3 _ | exact hk2 _
theorem do_none (F : Nat → Prop) (w : World) (g : Nat) (S : Nat → Option Qu) (o : OpS) (h : ShelfAt F w g S) (hc : checkS o = 0) (hk : o.kind ≠ 1 ∧ o.kind ≠ 8) (hf : firstK (isQ S o.name) = none) :
    Calls Try.prog 12 #[.pointer (some ⟨g, 0, none⟩), o.val] w fun e w' => e = .returned (.tuple #[.agg #[.int .i64 1, .int .i64 0, .slice none 0 0], .int .i64 (-1), .int .i64 0]) ∧ Below w.heap.size w w' := by
  have hck := fun W => check_any o W
  rw [hc] at hck
  have hfd := fun W h => find_any F W g S h o.name
  rw [hf] at hfd
  simp only [optI] at hfd
  obtain ⟨kind, nm, tx, num, most⟩ := o
  obtain ⟨hk1', hk8'⟩ := hk; simp only at hk1' hk8'
  unfold OpS.val at hck ⊢
  simp only at hfd hck
  have hg := h.lt
  go_enter Try.func12, Try.ntmps12
  go_wp2_with (first | (go_at_call 15; refine (hck _).mono ?_; rintro e w1 ⟨rfl, hbl⟩; have hgb := (hbl.block w.heap.size (by first | (simp; done) | (simp; omega) | omega)).trans ((hp_alloc_lt (by simp) _).trans (heap_alloc_new w _)); have ⟨cb, fb⟩ := cells_of_heap hgb; have hgc := (hbl.block (w.heap.size + 1) (by first | (simp; done) | (simp; omega) | omega)).trans (hp_alloc_new (by simp) _); have ⟨cc, fc⟩ := cells_of_heap hgc; have hz1 : w.heap.size + 1 < w1.heap.size := (by have := hbl.size; simp at this; omega); have hk1 : ∀ M, Keep M w w1 := fun M => (((Keep.refl M w).alloc _).alloc _).trans (Keep.of_below hbl) (fun _ _ h => h)) | (go_at_call 47; refine (hfd _ (h.keep (hk1 (fun _ => False)) (fun _ _ h => h))).mono ?_; rintro e w2 ⟨rfl, hb2⟩; have hgd := (hb2.block w.heap.size (by omega)).trans hgb; have ⟨cd, fd⟩ := cells_of_heap hgd; have hge := (hb2.block (w.heap.size + 1) (by omega)).trans hgc; have ⟨ce, fe⟩ := cells_of_heap hge; have hz2 := hb2.size; have hk2 : ∀ M, Keep M w w2 := fun M => (hk1 M).trans (Keep.of_below hb2) (fun _ _ h => h)) )
  refine bodyPost_ret (v := .tuple #[.agg #[.int .i64 1, .int .i64 0, .slice none 0 0], .int .i64 (-1), .int .i64 0]) (by simp [results, Try.results12, go_sem, *]) rfl ⟨rfl, ?_⟩
  refine Keep.below (M := fun _ => False) ?_ (fun _ _ h => h)
  (repeat (first | with_reducible exact Keep.refl _ _ | with_reducible exact hk1 _ | with_reducible exact hk2 | with_reducible refine Keep.drew ?_ | with_reducible refine Keep.alloc ?_ _ | with_reducible refine Keep.setCell ?_ (by first | exact Or.inl (Or.inl rfl) | exact Or.inl (Or.inr rfl) | exact Or.inl rfl | (right; simp; done) | (right; simp; omega) | (right; omega)) _))
  first | exact hk3 _ | exact hk2 _

/-- The shelf's footprint, cut to what there is. -/
theorem ShelfAt.cut {F : Nat → Prop} {w : World} {g : Nat} {S : Nat → Option Qu} (h : ShelfAt F w g S) : ShelfAt (fun k => F k ∧ k < w.heap.size) w g S := by
  have hg := h.lt
  obtain ⟨sc, cs, Fi, h1, h2, h3, h4, h5, h6, h7⟩ := h
  refine ⟨sc, cs, fun i k => Fi i k ∧ k < w.heap.size, h1, h2, h3, ⟨h4, hg⟩, fun i k hk => ⟨⟨(h5 i k hk.1).1, hk.2⟩, (h5 i k hk.1).2⟩, fun i j k h h' => h6 i j k h.1 h'.1, fun i hi => ?_⟩
  have := h7 i hi
  cases hq : S i with
  | none => rw [hq] at this; exact this
  | some q =>
    rw [hq] at this
    obtain ⟨s1, s2, s3, s4, s5, b, s6, s7, s8⟩ := this
    exact ⟨s1, s2, s3, s4, ⟨s5.1, fun k hk => ⟨s5.2 k hk, (s5.1.lt k hk).2⟩⟩, b, s6, ⟨s7, s8.lt⟩, s8⟩

theorem cells3 {w : World} {g : Nat} {a b c : Value} {e : TypeId} (h : w.heap[g]? = some (.cells #[a, b, c] e (0, 0))) : (w.cell? ⟨g, 0, none⟩ = some a ∧ w.cell? ⟨g, 1, none⟩ = some b ∧ w.cell? ⟨g, 2, none⟩ = some c) ∧
    w.frozen? ⟨g, 0, none⟩ = false ∧ w.frozen? ⟨g, 1, none⟩ = false ∧ w.frozen? ⟨g, 2, none⟩ = false :=
  ⟨⟨(cells_of_heap h).1 0, (cells_of_heap h).1 1, (cells_of_heap h).1 2⟩, (cells_of_heap h).2 0, (cells_of_heap h).2 1, (cells_of_heap h).2 2⟩

theorem cells5 {w : World} {g : Nat} {a b c d f : Value} {e : TypeId} (h : w.heap[g]? = some (.cells #[a, b, c, d, f] e (0, 0))) : w.cell? ⟨g, 0, none⟩ = some a ∧ w.cell? ⟨g, 1, none⟩ = some b ∧ w.cell? ⟨g, 2, none⟩ = some c ∧
    w.cell? ⟨g, 3, none⟩ = some d ∧ w.cell? ⟨g, 4, none⟩ = some f :=
  ⟨(cells_of_heap h).1 0, (cells_of_heap h).1 1, (cells_of_heap h).1 2, (cells_of_heap h).1 3, (cells_of_heap h).1 4⟩

/-- A slot as bytes, wherever. -/
def slotI (S : Nat → Option Qu) (i : Int) : List UInt8 := if 0 ≤ i ∧ i < 8 then slotB (S i.toNat) else []
theorem slot_any (F : Nat → Prop) (w : World) (g : Nat) (i : Int) (S : Nat → Option Qu) (h : ShelfAt F w g S) (hG : GoodS S) :
    Calls Try.prog 46 #[.pointer (some ⟨g, 0, none⟩), .int .i64 i] w fun e w' => ∃ v, e = .returned v ∧ Row (Made w w') w' 5 1 v (slotI S i).length (bytesV (slotI S i)) ∧ Below w.heap.size w w' := by
  by_cases hi : 0 ≤ i ∧ i < 8
  · obtain ⟨j, rfl⟩ : ∃ j : Nat, i = j := ⟨i.toNat, by omega⟩
    have e : slotI S (j : Int) = slotB (S j) := by rw [slotI, if_pos hi]; simp
    rw [e]
    cases hq : S j with
    | none =>
      refine (slot_none F w g j S h (.inr (.inr (by simpa using hq)))).mono ?_
      rintro e w' ⟨rfl, rfl⟩
      exact ⟨_, rfl, Row.nil _ _ _ _, Below.refl _ _⟩
    | some q => exact slot_some F w g j S q h (by omega) hq (hG.each j (by omega) q hq)
  · have e : slotI S i = [] := by rw [slotI, if_neg hi]
    rw [e]
    refine (slot_none F w g i S h (by omega)).mono ?_
    rintro e w' ⟨rfl, rfl⟩
    exact ⟨_, rfl, Row.nil _ _ _ _, Below.refl _ _⟩

end Go.Proofs.Ytfahakmnlmlgcaa
