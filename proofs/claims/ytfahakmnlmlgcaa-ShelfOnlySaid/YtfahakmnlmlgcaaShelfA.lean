/-
  Contracts of shelf's shapeOf, isName, Check, CheckResult, Query: what they answer, told in plain words.
-/
import Derived.Test.YtfahakmnlmlgcaaProg
import Derived.Test.YtfahakmnlmlgcaaBase
import Derived.WalkLawsBesides
import Derived.Lib.Hide
namespace Go.Proofs.Ytfahakmnlmlgcaa
open Go.RowKit Go.Lib
set_option linter.unusedVariables false
set_option linter.unusedSimpArgs false

/-- An op, in plain words. -/
structure OpS where
  kind : Int
  name : ByteArray
  text : ByteArray
  num : Int
  most : Int
def OpS.val (o : OpS) : Value := .agg #[.int .i64 o.kind, .string o.name, .string o.text, .int .i64 o.num, .int .i64 o.most]

/-- Which fields a kind has: name, text, group, num, most; is there such a kind? -/
def shp (k : Int) : Bool × Bool × Bool × Bool × Bool × Bool :=
  if k = 1 then (true, false, false, false, false, true) else if k = 2 then (true, false, false, false, false, true)
  else if k = 7 then (true, false, false, false, false, true) else if k = 3 then (true, true, false, false, false, true)
  else if k = 4 then (true, false, false, true, false, true) else if k = 5 then (true, true, true, false, false, true)
  else if k = 6 then (true, false, false, true, true, true) else if k = 8 then (false, false, false, false, false, true)
  else (false, false, false, false, false, false)

theorem shp_other {k : Int} (h : k < 1 ∨ 8 < k) : shp k = (false, false, false, false, false, false) := by
  unfold shp
  rw [if_neg (by omega), if_neg (by omega), if_neg (by omega), if_neg (by omega), if_neg (by omega), if_neg (by omega), if_neg (by omega), if_neg (by omega)]

theorem shp_1 : shp 1 = (true, false, false, false, false, true) := rfl
theorem shp_2 : shp 2 = (true, false, false, false, false, true) := rfl
theorem shp_3 : shp 3 = (true, true, false, false, false, true) := rfl
theorem shp_4 : shp 4 = (true, false, false, true, false, true) := rfl
theorem shp_5 : shp 5 = (true, true, true, false, false, true) := rfl
theorem shp_6 : shp 6 = (true, false, false, true, true, true) := rfl
theorem shp_7 : shp 7 = (true, false, false, false, false, true) := rfl
theorem shp_8 : shp 8 = (false, false, false, false, false, true) := rfl

theorem shapeOf_any (k : Int) (w : World) (a b c d e f : Bool) (h : shp k = (a, b, c, d, e, f)) :
    Calls Try.prog 52 #[.int .i64 k] w fun en w' => en = .returned (.tuple #[.agg #[.bool a, .bool b, .bool c, .bool d, .bool e], .bool f]) ∧ Below w.heap.size w w' := by
  by_cases hk : 1 ≤ k ∧ k ≤ 8
  · have hk' : k = 1 ∨ k = 2 ∨ k = 3 ∨ k = 4 ∨ k = 5 ∨ k = 6 ∨ k = 7 ∨ k = 8 := by omega
    clear hk
    rcases hk' with rfl | rfl | rfl | rfl | rfl | rfl | rfl | rfl
    all_goals
      simp [shp] at h
      obtain ⟨rfl, rfl, rfl, rfl, rfl, rfl⟩ := h
      go_enter Try.func52, Try.ntmps52
      go_wp2
      exact bodyPost_ret (v := .tuple #[.agg #[.bool _, .bool _, .bool _, .bool _, .bool _], .bool _]) (by simp [results, Try.results52, go_sem]) rfl ⟨rfl, (Below.refl _ _).alloc (Nat.le_refl _) _⟩
  · rw [shp_other (by omega)] at h
    simp only [Prod.mk.injEq] at h
    obtain ⟨rfl, rfl, rfl, rfl, rfl, rfl⟩ := h
    have h1 : ¬ k = 1 := by omega
    have h2 : ¬ k = 2 := by omega
    have h3 : ¬ k = 3 := by omega
    have h4 : ¬ k = 4 := by omega
    have h5 : ¬ k = 5 := by omega
    have h6 : ¬ k = 6 := by omega
    have h7 : ¬ k = 7 := by omega
    have h8 : ¬ k = 8 := by omega
    clear hk
    go_enter Try.func52, Try.ntmps52
    go_wp2
    exact bodyPost_ret (v := .tuple #[.agg #[.bool _, .bool _, .bool _, .bool _, .bool _], .bool _]) (by simp [results, Try.results52, go_sem]) rfl ⟨rfl, (Below.refl _ _).alloc (Nat.le_refl _) _⟩

/-- May a text be a name? -/
def nameOk (s : ByteArray) : Bool := decide (1 ≤ s.size) && decide (s.size ≤ 16)

theorem isName_any (s : ByteArray) (w : World) (b : Bool) (hb : nameOk s = b) :
    Calls Try.prog 53 #[.string s] w fun e w' => e = .returned (.bool b) ∧ w = w' := by
  by_cases h1 : 1 ≤ s.size
  · by_cases h2 : s.size ≤ 16
    · obtain rfl : true = b := by rw [← hb]; simp [nameOk, h1, h2]
      go_enter Try.func53, Try.ntmps53
      go_wp2
      go_ret
      simp; omega
    · obtain rfl : false = b := by rw [← hb]; simp [nameOk, h2]
      go_enter Try.func53, Try.ntmps53
      go_wp2
      go_ret
      simp; omega
  · obtain rfl : false = b := by rw [← hb]; simp [nameOk, h1]
    go_enter Try.func53, Try.ntmps53
    go_wp2
    go_ret
    simp

/-- What Check answers. -/
def checkS (o : OpS) : Int :=
  if o.kind < 1 ∨ 8 < o.kind then 50
  else if o.kind ≠ 8 ∧ nameOk o.name = false then 51
  else if (o.kind = 5 ∧ nameOk o.text = false) ∨ (o.kind = 3 ∧ 64 < o.text.size) then 52
  else if (o.kind = 4 ∨ o.kind = 6) ∧ (o.num < 0 ∨ 1099511627776 < o.num) then 53
  else if o.kind = 6 ∧ (o.most < 1 ∨ 8 < o.most) then 54
  else if (o.kind = 8 ∧ o.name.size ≠ 0) ∨ (o.kind ≠ 3 ∧ o.kind ≠ 5 ∧ o.text.size ≠ 0) ∨ (o.kind ≠ 4 ∧ o.kind ≠ 6 ∧ o.num ≠ 0) ∨ (o.kind ≠ 6 ∧ o.most ≠ 0) then 55
  else 0

theorem check_1 (nm tx : ByteArray) (num most : Int) (w : World) : Calls Try.prog 15 #[.agg #[.int .i64 1, .string nm, .string tx, .int .i64 num, .int .i64 most]] w fun e w' => e = .returned (.int .i64 (checkS ⟨1, nm, tx, num, most⟩)) ∧ Below w.heap.size w w' := by
  go_enter Try.func15, Try.ntmps15
  go_wp2_with (first | (go_at_call 52; refine (shapeOf_any _ _ _ _ _ _ _ _ shp_1).mono ?_; rintro e w1 ⟨rfl, hb⟩; have ⟨hc, hf⟩ := cells_of_heap ((hb.block w.heap.size (by simp)).trans (heap_alloc_new w _)); have hz : w.heap.size < w1.heap.size := by have := hb.size; simp at this; omega) | (go_at_call 53; refine (isName_any _ _ _ rfl).mono ?_; rintro e w' ⟨rfl, rfl⟩))
  all_goals
    go_ret
    refine ⟨?_, ((((Below.refl _ _).alloc (Nat.le_refl _) _).trans (hb.mono (by simp))).alloc (by omega) _)⟩
    clear hb hc hf hz
    simp_all [checkS, toList_isEmpty]
    all_goals first | omega | (intros; (repeat' split) <;> omega) | (exfalso; unfold nameOk at *; simp at *; omega)
theorem check_2 (nm tx : ByteArray) (num most : Int) (w : World) : Calls Try.prog 15 #[.agg #[.int .i64 2, .string nm, .string tx, .int .i64 num, .int .i64 most]] w fun e w' => e = .returned (.int .i64 (checkS ⟨2, nm, tx, num, most⟩)) ∧ Below w.heap.size w w' := by
  go_enter Try.func15, Try.ntmps15
  go_wp2_with (first | (go_at_call 52; refine (shapeOf_any _ _ _ _ _ _ _ _ shp_2).mono ?_; rintro e w1 ⟨rfl, hb⟩; have ⟨hc, hf⟩ := cells_of_heap ((hb.block w.heap.size (by simp)).trans (heap_alloc_new w _)); have hz : w.heap.size < w1.heap.size := by have := hb.size; simp at this; omega) | (go_at_call 53; refine (isName_any _ _ _ rfl).mono ?_; rintro e w' ⟨rfl, rfl⟩))
  all_goals
    go_ret
    refine ⟨?_, ((((Below.refl _ _).alloc (Nat.le_refl _) _).trans (hb.mono (by simp))).alloc (by omega) _)⟩
    clear hb hc hf hz
    simp_all [checkS, toList_isEmpty]
    all_goals first | omega | (intros; (repeat' split) <;> omega) | (exfalso; unfold nameOk at *; simp at *; omega)
theorem check_3 (nm tx : ByteArray) (num most : Int) (w : World) : Calls Try.prog 15 #[.agg #[.int .i64 3, .string nm, .string tx, .int .i64 num, .int .i64 most]] w fun e w' => e = .returned (.int .i64 (checkS ⟨3, nm, tx, num, most⟩)) ∧ Below w.heap.size w w' := by
  go_enter Try.func15, Try.ntmps15
  go_wp2_with (first | (go_at_call 52; refine (shapeOf_any _ _ _ _ _ _ _ _ shp_3).mono ?_; rintro e w1 ⟨rfl, hb⟩; have ⟨hc, hf⟩ := cells_of_heap ((hb.block w.heap.size (by simp)).trans (heap_alloc_new w _)); have hz : w.heap.size < w1.heap.size := by have := hb.size; simp at this; omega) | (go_at_call 53; refine (isName_any _ _ _ rfl).mono ?_; rintro e w' ⟨rfl, rfl⟩))
  all_goals
    go_ret
    refine ⟨?_, ((((Below.refl _ _).alloc (Nat.le_refl _) _).trans (hb.mono (by simp))).alloc (by omega) _)⟩
    clear hb hc hf hz
    simp_all [checkS, toList_isEmpty]
    all_goals first | omega | (intros; (repeat' split) <;> omega) | (exfalso; unfold nameOk at *; simp at *; omega)
theorem check_4 (nm tx : ByteArray) (num most : Int) (w : World) : Calls Try.prog 15 #[.agg #[.int .i64 4, .string nm, .string tx, .int .i64 num, .int .i64 most]] w fun e w' => e = .returned (.int .i64 (checkS ⟨4, nm, tx, num, most⟩)) ∧ Below w.heap.size w w' := by
  go_enter Try.func15, Try.ntmps15
  go_wp2_with (first | (go_at_call 52; refine (shapeOf_any _ _ _ _ _ _ _ _ shp_4).mono ?_; rintro e w1 ⟨rfl, hb⟩; have ⟨hc, hf⟩ := cells_of_heap ((hb.block w.heap.size (by simp)).trans (heap_alloc_new w _)); have hz : w.heap.size < w1.heap.size := by have := hb.size; simp at this; omega) | (go_at_call 53; refine (isName_any _ _ _ rfl).mono ?_; rintro e w' ⟨rfl, rfl⟩))
  all_goals
    go_ret
    refine ⟨?_, ((((Below.refl _ _).alloc (Nat.le_refl _) _).trans (hb.mono (by simp))).alloc (by omega) _)⟩
    clear hb hc hf hz
    simp_all [checkS, toList_isEmpty]
    all_goals first | omega | (intros; (repeat' split) <;> omega) | (exfalso; unfold nameOk at *; simp at *; omega)
theorem check_5 (nm tx : ByteArray) (num most : Int) (w : World) : Calls Try.prog 15 #[.agg #[.int .i64 5, .string nm, .string tx, .int .i64 num, .int .i64 most]] w fun e w' => e = .returned (.int .i64 (checkS ⟨5, nm, tx, num, most⟩)) ∧ Below w.heap.size w w' := by
  go_enter Try.func15, Try.ntmps15
  go_wp2_with (first | (go_at_call 52; refine (shapeOf_any _ _ _ _ _ _ _ _ shp_5).mono ?_; rintro e w1 ⟨rfl, hb⟩; have ⟨hc, hf⟩ := cells_of_heap ((hb.block w.heap.size (by simp)).trans (heap_alloc_new w _)); have hz : w.heap.size < w1.heap.size := by have := hb.size; simp at this; omega) | (go_at_call 53; refine (isName_any _ _ _ rfl).mono ?_; rintro e w' ⟨rfl, rfl⟩))
  all_goals
    go_ret
    refine ⟨?_, ((((Below.refl _ _).alloc (Nat.le_refl _) _).trans (hb.mono (by simp))).alloc (by omega) _)⟩
    clear hb hc hf hz
    simp_all [checkS, toList_isEmpty]
    all_goals first | omega | (intros; (repeat' split) <;> omega) | (exfalso; unfold nameOk at *; simp at *; omega)
theorem check_6 (nm tx : ByteArray) (num most : Int) (w : World) : Calls Try.prog 15 #[.agg #[.int .i64 6, .string nm, .string tx, .int .i64 num, .int .i64 most]] w fun e w' => e = .returned (.int .i64 (checkS ⟨6, nm, tx, num, most⟩)) ∧ Below w.heap.size w w' := by
  go_enter Try.func15, Try.ntmps15
  go_wp2_with (first | (go_at_call 52; refine (shapeOf_any _ _ _ _ _ _ _ _ shp_6).mono ?_; rintro e w1 ⟨rfl, hb⟩; have ⟨hc, hf⟩ := cells_of_heap ((hb.block w.heap.size (by simp)).trans (heap_alloc_new w _)); have hz : w.heap.size < w1.heap.size := by have := hb.size; simp at this; omega) | (go_at_call 53; refine (isName_any _ _ _ rfl).mono ?_; rintro e w' ⟨rfl, rfl⟩))
  all_goals
    go_ret
    refine ⟨?_, ((((Below.refl _ _).alloc (Nat.le_refl _) _).trans (hb.mono (by simp))).alloc (by omega) _)⟩
    clear hb hc hf hz
    simp_all [checkS, toList_isEmpty]
    all_goals first | omega | (intros; (repeat' split) <;> omega) | (exfalso; unfold nameOk at *; simp at *; omega)
theorem check_7 (nm tx : ByteArray) (num most : Int) (w : World) : Calls Try.prog 15 #[.agg #[.int .i64 7, .string nm, .string tx, .int .i64 num, .int .i64 most]] w fun e w' => e = .returned (.int .i64 (checkS ⟨7, nm, tx, num, most⟩)) ∧ Below w.heap.size w w' := by
  go_enter Try.func15, Try.ntmps15
  go_wp2_with (first | (go_at_call 52; refine (shapeOf_any _ _ _ _ _ _ _ _ shp_7).mono ?_; rintro e w1 ⟨rfl, hb⟩; have ⟨hc, hf⟩ := cells_of_heap ((hb.block w.heap.size (by simp)).trans (heap_alloc_new w _)); have hz : w.heap.size < w1.heap.size := by have := hb.size; simp at this; omega) | (go_at_call 53; refine (isName_any _ _ _ rfl).mono ?_; rintro e w' ⟨rfl, rfl⟩))
  all_goals
    go_ret
    refine ⟨?_, ((((Below.refl _ _).alloc (Nat.le_refl _) _).trans (hb.mono (by simp))).alloc (by omega) _)⟩
    clear hb hc hf hz
    simp_all [checkS, toList_isEmpty]
    all_goals first | omega | (intros; (repeat' split) <;> omega) | (exfalso; unfold nameOk at *; simp at *; omega)
theorem check_8 (nm tx : ByteArray) (num most : Int) (w : World) : Calls Try.prog 15 #[.agg #[.int .i64 8, .string nm, .string tx, .int .i64 num, .int .i64 most]] w fun e w' => e = .returned (.int .i64 (checkS ⟨8, nm, tx, num, most⟩)) ∧ Below w.heap.size w w' := by
  go_enter Try.func15, Try.ntmps15
  go_wp2_with (first | (go_at_call 52; refine (shapeOf_any _ _ _ _ _ _ _ _ shp_8).mono ?_; rintro e w1 ⟨rfl, hb⟩; have ⟨hc, hf⟩ := cells_of_heap ((hb.block w.heap.size (by simp)).trans (heap_alloc_new w _)); have hz : w.heap.size < w1.heap.size := by have := hb.size; simp at this; omega) | (go_at_call 53; refine (isName_any _ _ _ rfl).mono ?_; rintro e w' ⟨rfl, rfl⟩))
  all_goals
    go_ret
    refine ⟨?_, ((((Below.refl _ _).alloc (Nat.le_refl _) _).trans (hb.mono (by simp))).alloc (by omega) _)⟩
    clear hb hc hf hz
    simp_all [checkS, toList_isEmpty]
    all_goals first | omega | (intros; (repeat' split) <;> omega) | (exfalso; unfold nameOk at *; simp at *; omega)

theorem check_any (o : OpS) (w : World) : Calls Try.prog 15 #[o.val] w fun e w' => e = .returned (.int .i64 (checkS o)) ∧ Below w.heap.size w w' := by
  obtain ⟨k, nm, tx, num, most⟩ := o
  by_cases hk : 1 ≤ k ∧ k ≤ 8
  · have hk' : k = 1 ∨ k = 2 ∨ k = 3 ∨ k = 4 ∨ k = 5 ∨ k = 6 ∨ k = 7 ∨ k = 8 := by omega
    rcases hk' with rfl | rfl | rfl | rfl | rfl | rfl | rfl | rfl
    · exact check_1 nm tx num most w
    · exact check_2 nm tx num most w
    · exact check_3 nm tx num most w
    · exact check_4 nm tx num most w
    · exact check_5 nm tx num most w
    · exact check_6 nm tx num most w
    · exact check_7 nm tx num most w
    · exact check_8 nm tx num most w
  · have hs := shp_other (k := k) (by omega)
    have hS : checkS ⟨k, nm, tx, num, most⟩ = 50 := by simp only [checkS]; rw [if_pos (by omega)]
    have hS := Lib.hid hS
    have hs := Lib.hid hs
    clear hk
    unfold OpS.val
    go_enter Try.func15, Try.ntmps15
    go_wp2_with (first | (go_at_call 52; refine (shapeOf_any _ _ _ _ _ _ _ _ hs.out).mono ?_; rintro e w1 ⟨rfl, hb⟩))
    go_ret
    exact ⟨by rw [hS.out]; rfl, ((((Below.refl _ _).alloc (Nat.le_refl _) _).trans (hb.mono (by simp))).alloc (by have := hb.size; simp at this; omega) _)⟩
end Go.Proofs.Ytfahakmnlmlgcaa
