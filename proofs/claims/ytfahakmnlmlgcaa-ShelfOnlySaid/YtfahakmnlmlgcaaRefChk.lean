/-
  Contracts of the document's Check, CheckResult, Query.
-/
import Derived.Test.YtfahakmnlmlgcaaShelfA
import Derived.Test.YtfahakmnlmlgcaaShelfB
import Derived.Test.YtfahakmnlmlgcaaSame
import Derived.Test.YtfahakmnlmlgcaaDoS
namespace Go.Proofs.Ytfahakmnlmlgcaa
open Go.RowKit Go.Lib
set_option linter.unusedVariables false
set_option linter.unusedSimpArgs false

theorem rquery_any (k : Int) (w : World) :
    Calls Try.prog 20 #[.int .i64 k] w fun e w' => e = .returned (.bool (decide (6 ≤ k) && decide (k ≤ 8))) ∧ w = w' := by
  go_enter Try.func20, Try.ntmps20
  go_wp2
  all_goals (go_ret; simp [*]; try omega)

theorem checkS_eq (o : OpS) : checkS o = if o.kind < 1 ∨ 8 < o.kind then 50
  else if o.kind ≠ 8 ∧ ¬ (1 ≤ o.name.size ∧ o.name.size ≤ 16) then 51
  else if (o.kind = 5 ∧ ¬ (1 ≤ o.text.size ∧ o.text.size ≤ 16)) ∨ (o.kind = 3 ∧ 64 < o.text.size) then 52
  else if (o.kind = 4 ∨ o.kind = 6) ∧ (o.num < 0 ∨ 1099511627776 < o.num) then 53
  else if o.kind = 6 ∧ (o.most < 1 ∨ 8 < o.most) then 54
  else if (o.kind = 8 ∧ o.name.size ≠ 0) ∨ (o.kind ≠ 3 ∧ o.kind ≠ 5 ∧ o.text.size ≠ 0) ∨ (o.kind ≠ 4 ∧ o.kind ≠ 6 ∧ o.num ≠ 0) ∨ (o.kind ≠ 6 ∧ o.most ≠ 0) then 55
  else 0 := by
  have h : ∀ s : ByteArray, (nameOk s = false) = ¬ (1 ≤ s.size ∧ s.size ≤ 16) := fun s => propext (nameOk_not s)
  unfold checkS
  simp only [h]

theorem checkS_mk (k : Int) (nm tx : ByteArray) (num most : Int) : checkS ⟨k, nm, tx, num, most⟩ = if k < 1 ∨ 8 < k then 50
  else if k ≠ 8 ∧ ¬ (1 ≤ nm.size ∧ nm.size ≤ 16) then 51
  else if (k = 5 ∧ ¬ (1 ≤ tx.size ∧ tx.size ≤ 16)) ∨ (k = 3 ∧ 64 < tx.size) then 52
  else if (k = 4 ∨ k = 6) ∧ (num < 0 ∨ 1099511627776 < num) then 53
  else if k = 6 ∧ (most < 1 ∨ 8 < most) then 54
  else if (k = 8 ∧ nm.size ≠ 0) ∨ (k ≠ 3 ∧ k ≠ 5 ∧ tx.size ≠ 0) ∨ (k ≠ 4 ∧ k ≠ 6 ∧ num ≠ 0) ∨ (k ≠ 6 ∧ most ≠ 0) then 55
  else 0 := checkS_eq _

theorem ret_int {a b : Int} (h : a = b) : Ending.returned (.int .i64 a) = .returned (.int .i64 b) := by rw [h]
theorem toList_nil (s : ByteArray) : (s.toList = []) = (s.size = 0) := by
  have := toList_isEmpty s
  rw [← List.isEmpty_iff, this]; simp only [decide_eq_true_eq]

theorem Keep.drewN {M : Nat → Prop} {w w1 : World} (h : Keep M w w1) (n : Nat) : Keep M w (w1.drewN n) := ⟨h.os, h.tape, h.output, h.size, h.block⟩

theorem tm_1 (w : World) : Calls Try.prog 55 #[.int .i64 1] w fun e w' => e = .returned (.int .i64 (-1)) ∧ w' = w := by
  go_enter Try.func55, Try.ntmps55
  go_wp2
  go_ret
  exact ⟨rfl, rfl⟩
theorem tl_1 (w : World) : Calls Try.prog 56 #[.int .i64 1] w fun e w' => e = .returned (.int .i64 0) ∧ w' = w := by
  go_enter Try.func56, Try.ntmps56
  go_wp2
  go_ret
  exact ⟨rfl, rfl⟩
theorem hn_1 (w : World) : Calls Try.prog 54 #[.int .i64 1] w fun e w' => e = .returned (.bool true) ∧ w' = w := by
  go_enter Try.func54, Try.ntmps54
  go_wp2
  go_ret
  simp
theorem hm_1 (w : World) : Calls Try.prog 57 #[.int .i64 1] w fun e w' => e = .returned (.bool false) ∧ w' = w := by
  go_enter Try.func57, Try.ntmps57
  go_wp2
  go_ret
  simp
theorem tm_2 (w : World) : Calls Try.prog 55 #[.int .i64 2] w fun e w' => e = .returned (.int .i64 (-1)) ∧ w' = w := by
  go_enter Try.func55, Try.ntmps55
  go_wp2
  go_ret
  exact ⟨rfl, rfl⟩
theorem tl_2 (w : World) : Calls Try.prog 56 #[.int .i64 2] w fun e w' => e = .returned (.int .i64 0) ∧ w' = w := by
  go_enter Try.func56, Try.ntmps56
  go_wp2
  go_ret
  exact ⟨rfl, rfl⟩
theorem hn_2 (w : World) : Calls Try.prog 54 #[.int .i64 2] w fun e w' => e = .returned (.bool true) ∧ w' = w := by
  go_enter Try.func54, Try.ntmps54
  go_wp2
  go_ret
  simp
theorem hm_2 (w : World) : Calls Try.prog 57 #[.int .i64 2] w fun e w' => e = .returned (.bool false) ∧ w' = w := by
  go_enter Try.func57, Try.ntmps57
  go_wp2
  go_ret
  simp
theorem tm_3 (w : World) : Calls Try.prog 55 #[.int .i64 3] w fun e w' => e = .returned (.int .i64 (64)) ∧ w' = w := by
  go_enter Try.func55, Try.ntmps55
  go_wp2
  go_ret
  exact ⟨rfl, rfl⟩
theorem tl_3 (w : World) : Calls Try.prog 56 #[.int .i64 3] w fun e w' => e = .returned (.int .i64 0) ∧ w' = w := by
  go_enter Try.func56, Try.ntmps56
  go_wp2
  go_ret
  exact ⟨rfl, rfl⟩
theorem hn_3 (w : World) : Calls Try.prog 54 #[.int .i64 3] w fun e w' => e = .returned (.bool true) ∧ w' = w := by
  go_enter Try.func54, Try.ntmps54
  go_wp2
  go_ret
  simp
theorem hm_3 (w : World) : Calls Try.prog 57 #[.int .i64 3] w fun e w' => e = .returned (.bool false) ∧ w' = w := by
  go_enter Try.func57, Try.ntmps57
  go_wp2
  go_ret
  simp
theorem tm_4 (w : World) : Calls Try.prog 55 #[.int .i64 4] w fun e w' => e = .returned (.int .i64 (-1)) ∧ w' = w := by
  go_enter Try.func55, Try.ntmps55
  go_wp2
  go_ret
  exact ⟨rfl, rfl⟩
theorem tl_4 (w : World) : Calls Try.prog 56 #[.int .i64 4] w fun e w' => e = .returned (.int .i64 0) ∧ w' = w := by
  go_enter Try.func56, Try.ntmps56
  go_wp2
  go_ret
  exact ⟨rfl, rfl⟩
theorem hn_4 (w : World) : Calls Try.prog 54 #[.int .i64 4] w fun e w' => e = .returned (.bool true) ∧ w' = w := by
  go_enter Try.func54, Try.ntmps54
  go_wp2
  go_ret
  simp
theorem hm_4 (w : World) : Calls Try.prog 57 #[.int .i64 4] w fun e w' => e = .returned (.bool true) ∧ w' = w := by
  go_enter Try.func57, Try.ntmps57
  go_wp2
  go_ret
  simp
theorem tm_5 (w : World) : Calls Try.prog 55 #[.int .i64 5] w fun e w' => e = .returned (.int .i64 (16)) ∧ w' = w := by
  go_enter Try.func55, Try.ntmps55
  go_wp2
  go_ret
  exact ⟨rfl, rfl⟩
theorem tl_5 (w : World) : Calls Try.prog 56 #[.int .i64 5] w fun e w' => e = .returned (.int .i64 1) ∧ w' = w := by
  go_enter Try.func56, Try.ntmps56
  go_wp2
  go_ret
  exact ⟨rfl, rfl⟩
theorem hn_5 (w : World) : Calls Try.prog 54 #[.int .i64 5] w fun e w' => e = .returned (.bool true) ∧ w' = w := by
  go_enter Try.func54, Try.ntmps54
  go_wp2
  go_ret
  simp
theorem hm_5 (w : World) : Calls Try.prog 57 #[.int .i64 5] w fun e w' => e = .returned (.bool false) ∧ w' = w := by
  go_enter Try.func57, Try.ntmps57
  go_wp2
  go_ret
  simp
theorem tm_6 (w : World) : Calls Try.prog 55 #[.int .i64 6] w fun e w' => e = .returned (.int .i64 (-1)) ∧ w' = w := by
  go_enter Try.func55, Try.ntmps55
  go_wp2
  go_ret
  exact ⟨rfl, rfl⟩
theorem tl_6 (w : World) : Calls Try.prog 56 #[.int .i64 6] w fun e w' => e = .returned (.int .i64 0) ∧ w' = w := by
  go_enter Try.func56, Try.ntmps56
  go_wp2
  go_ret
  exact ⟨rfl, rfl⟩
theorem hn_6 (w : World) : Calls Try.prog 54 #[.int .i64 6] w fun e w' => e = .returned (.bool true) ∧ w' = w := by
  go_enter Try.func54, Try.ntmps54
  go_wp2
  go_ret
  simp
theorem hm_6 (w : World) : Calls Try.prog 57 #[.int .i64 6] w fun e w' => e = .returned (.bool true) ∧ w' = w := by
  go_enter Try.func57, Try.ntmps57
  go_wp2
  go_ret
  simp
theorem tm_7 (w : World) : Calls Try.prog 55 #[.int .i64 7] w fun e w' => e = .returned (.int .i64 (-1)) ∧ w' = w := by
  go_enter Try.func55, Try.ntmps55
  go_wp2
  go_ret
  exact ⟨rfl, rfl⟩
theorem tl_7 (w : World) : Calls Try.prog 56 #[.int .i64 7] w fun e w' => e = .returned (.int .i64 0) ∧ w' = w := by
  go_enter Try.func56, Try.ntmps56
  go_wp2
  go_ret
  exact ⟨rfl, rfl⟩
theorem hn_7 (w : World) : Calls Try.prog 54 #[.int .i64 7] w fun e w' => e = .returned (.bool true) ∧ w' = w := by
  go_enter Try.func54, Try.ntmps54
  go_wp2
  go_ret
  simp
theorem hm_7 (w : World) : Calls Try.prog 57 #[.int .i64 7] w fun e w' => e = .returned (.bool false) ∧ w' = w := by
  go_enter Try.func57, Try.ntmps57
  go_wp2
  go_ret
  simp
theorem tm_8 (w : World) : Calls Try.prog 55 #[.int .i64 8] w fun e w' => e = .returned (.int .i64 (-1)) ∧ w' = w := by
  go_enter Try.func55, Try.ntmps55
  go_wp2
  go_ret
  exact ⟨rfl, rfl⟩
theorem tl_8 (w : World) : Calls Try.prog 56 #[.int .i64 8] w fun e w' => e = .returned (.int .i64 0) ∧ w' = w := by
  go_enter Try.func56, Try.ntmps56
  go_wp2
  go_ret
  exact ⟨rfl, rfl⟩
theorem hn_8 (w : World) : Calls Try.prog 54 #[.int .i64 8] w fun e w' => e = .returned (.bool false) ∧ w' = w := by
  go_enter Try.func54, Try.ntmps54
  go_wp2
  go_ret
  simp
theorem hm_8 (w : World) : Calls Try.prog 57 #[.int .i64 8] w fun e w' => e = .returned (.bool false) ∧ w' = w := by
  go_enter Try.func57, Try.ntmps57
  go_wp2
  go_ret
  simp

set_option maxHeartbeats 1000000 in
theorem rcheck_1 (nm tx : ByteArray) (num most : Int) (w : World)  : Calls Try.prog 18 #[.agg #[.int .i64 1, .string nm, .string tx, .int .i64 num, .int .i64 most]] w fun e w' => e = .returned (.int .i64 (checkS ⟨1, nm, tx, num, most⟩)) ∧ Below w.heap.size w w' := by
  skip
  go_enter Try.func18, Try.ntmps18
  go_wp2_with (first | (go_at_call 54; refine (hn_1 _).mono ?_; rintro e w1 ⟨rfl, rfl⟩) | (go_at_call 57; refine (hm_1 _).mono ?_; rintro e w1 ⟨rfl, rfl⟩))
  all_goals first
    | (go_ret; refine ⟨ret_int ?_, (Below.refl _ _).alloc (Nat.le_refl _) _⟩; ((try simp only [toList_nil, toList_isEmpty, Bool.not_eq_true', Bool.not_eq_false', Bool.not_eq_eq_eq_not, Bool.not_true, Bool.not_false, decide_eq_false_iff_not, decide_eq_true_eq, bne_iff_ne, ne_eq, bne_eq_false_iff_eq, beq_iff_eq] at *); rw [checkS_mk]; (repeat' split) <;> first | rfl | (exfalso; omega)))
    | (go_quiet ((first | (go_at_call 55; exact Calls.quiet_of_same (tm_1 _)) | (go_at_call 56; exact Calls.quiet_of_same (tl_1 _)))); go_wp2_with (first | (go_at_call 54; refine (hn_1 _).mono ?_; rintro e w1 ⟨rfl, rfl⟩) | (go_at_call 57; refine (hm_1 _).mono ?_; rintro e w1 ⟨rfl, rfl⟩) | (go_at_call 55; refine (tm_1 _).mono ?_; rintro e w1 ⟨rfl, rfl⟩)); all_goals (go_ret; refine ⟨ret_int ?_, ?_⟩; (focus ((try simp only [toList_nil, toList_isEmpty, Bool.not_eq_true', Bool.not_eq_false', Bool.not_eq_eq_eq_not, Bool.not_true, Bool.not_false, decide_eq_false_iff_not, decide_eq_true_eq, bne_iff_ne, ne_eq, bne_eq_false_iff_eq, beq_iff_eq] at *); rw [checkS_mk]; (repeat' split) <;> first | rfl | (exfalso; omega))); (refine Keep.below (M := fun _ => False) ?_ (fun _ _ h => h); repeat (first | with_reducible exact Keep.refl _ _ | with_reducible refine Keep.drewN ?_ _ | with_reducible refine Keep.alloc ?_ _))))
set_option maxHeartbeats 1000000 in
theorem rcheck_2 (nm tx : ByteArray) (num most : Int) (w : World)  : Calls Try.prog 18 #[.agg #[.int .i64 2, .string nm, .string tx, .int .i64 num, .int .i64 most]] w fun e w' => e = .returned (.int .i64 (checkS ⟨2, nm, tx, num, most⟩)) ∧ Below w.heap.size w w' := by
  skip
  go_enter Try.func18, Try.ntmps18
  go_wp2_with (first | (go_at_call 54; refine (hn_2 _).mono ?_; rintro e w1 ⟨rfl, rfl⟩) | (go_at_call 57; refine (hm_2 _).mono ?_; rintro e w1 ⟨rfl, rfl⟩))
  all_goals first
    | (go_ret; refine ⟨ret_int ?_, (Below.refl _ _).alloc (Nat.le_refl _) _⟩; ((try simp only [toList_nil, toList_isEmpty, Bool.not_eq_true', Bool.not_eq_false', Bool.not_eq_eq_eq_not, Bool.not_true, Bool.not_false, decide_eq_false_iff_not, decide_eq_true_eq, bne_iff_ne, ne_eq, bne_eq_false_iff_eq, beq_iff_eq] at *); rw [checkS_mk]; (repeat' split) <;> first | rfl | (exfalso; omega)))
    | (go_quiet ((first | (go_at_call 55; exact Calls.quiet_of_same (tm_2 _)) | (go_at_call 56; exact Calls.quiet_of_same (tl_2 _)))); go_wp2_with (first | (go_at_call 54; refine (hn_2 _).mono ?_; rintro e w1 ⟨rfl, rfl⟩) | (go_at_call 57; refine (hm_2 _).mono ?_; rintro e w1 ⟨rfl, rfl⟩) | (go_at_call 55; refine (tm_2 _).mono ?_; rintro e w1 ⟨rfl, rfl⟩)); all_goals (go_ret; refine ⟨ret_int ?_, ?_⟩; (focus ((try simp only [toList_nil, toList_isEmpty, Bool.not_eq_true', Bool.not_eq_false', Bool.not_eq_eq_eq_not, Bool.not_true, Bool.not_false, decide_eq_false_iff_not, decide_eq_true_eq, bne_iff_ne, ne_eq, bne_eq_false_iff_eq, beq_iff_eq] at *); rw [checkS_mk]; (repeat' split) <;> first | rfl | (exfalso; omega))); (refine Keep.below (M := fun _ => False) ?_ (fun _ _ h => h); repeat (first | with_reducible exact Keep.refl _ _ | with_reducible refine Keep.drewN ?_ _ | with_reducible refine Keep.alloc ?_ _))))
set_option maxHeartbeats 1000000 in
theorem rcheck_4 (nm tx : ByteArray) (num most : Int) (w : World)  : Calls Try.prog 18 #[.agg #[.int .i64 4, .string nm, .string tx, .int .i64 num, .int .i64 most]] w fun e w' => e = .returned (.int .i64 (checkS ⟨4, nm, tx, num, most⟩)) ∧ Below w.heap.size w w' := by
  skip
  go_enter Try.func18, Try.ntmps18
  go_wp2_with (first | (go_at_call 54; refine (hn_4 _).mono ?_; rintro e w1 ⟨rfl, rfl⟩) | (go_at_call 57; refine (hm_4 _).mono ?_; rintro e w1 ⟨rfl, rfl⟩))
  all_goals first
    | (go_ret; refine ⟨ret_int ?_, (Below.refl _ _).alloc (Nat.le_refl _) _⟩; ((try simp only [toList_nil, toList_isEmpty, Bool.not_eq_true', Bool.not_eq_false', Bool.not_eq_eq_eq_not, Bool.not_true, Bool.not_false, decide_eq_false_iff_not, decide_eq_true_eq, bne_iff_ne, ne_eq, bne_eq_false_iff_eq, beq_iff_eq] at *); rw [checkS_mk]; (repeat' split) <;> first | rfl | (exfalso; omega)))
    | (go_quiet ((first | (go_at_call 55; exact Calls.quiet_of_same (tm_4 _)) | (go_at_call 56; exact Calls.quiet_of_same (tl_4 _)))); go_wp2_with (first | (go_at_call 54; refine (hn_4 _).mono ?_; rintro e w1 ⟨rfl, rfl⟩) | (go_at_call 57; refine (hm_4 _).mono ?_; rintro e w1 ⟨rfl, rfl⟩) | (go_at_call 55; refine (tm_4 _).mono ?_; rintro e w1 ⟨rfl, rfl⟩)); all_goals (go_ret; refine ⟨ret_int ?_, ?_⟩; (focus ((try simp only [toList_nil, toList_isEmpty, Bool.not_eq_true', Bool.not_eq_false', Bool.not_eq_eq_eq_not, Bool.not_true, Bool.not_false, decide_eq_false_iff_not, decide_eq_true_eq, bne_iff_ne, ne_eq, bne_eq_false_iff_eq, beq_iff_eq] at *); rw [checkS_mk]; (repeat' split) <;> first | rfl | (exfalso; omega))); (refine Keep.below (M := fun _ => False) ?_ (fun _ _ h => h); repeat (first | with_reducible exact Keep.refl _ _ | with_reducible refine Keep.drewN ?_ _ | with_reducible refine Keep.alloc ?_ _))))
set_option maxHeartbeats 1000000 in
theorem rcheck_6 (nm tx : ByteArray) (num most : Int) (w : World)  : Calls Try.prog 18 #[.agg #[.int .i64 6, .string nm, .string tx, .int .i64 num, .int .i64 most]] w fun e w' => e = .returned (.int .i64 (checkS ⟨6, nm, tx, num, most⟩)) ∧ Below w.heap.size w w' := by
  skip
  go_enter Try.func18, Try.ntmps18
  go_wp2_with (first | (go_at_call 54; refine (hn_6 _).mono ?_; rintro e w1 ⟨rfl, rfl⟩) | (go_at_call 57; refine (hm_6 _).mono ?_; rintro e w1 ⟨rfl, rfl⟩))
  all_goals first
    | (go_ret; refine ⟨ret_int ?_, (Below.refl _ _).alloc (Nat.le_refl _) _⟩; ((try simp only [toList_nil, toList_isEmpty, Bool.not_eq_true', Bool.not_eq_false', Bool.not_eq_eq_eq_not, Bool.not_true, Bool.not_false, decide_eq_false_iff_not, decide_eq_true_eq, bne_iff_ne, ne_eq, bne_eq_false_iff_eq, beq_iff_eq] at *); rw [checkS_mk]; (repeat' split) <;> first | rfl | (exfalso; omega)))
    | (go_quiet ((first | (go_at_call 55; exact Calls.quiet_of_same (tm_6 _)) | (go_at_call 56; exact Calls.quiet_of_same (tl_6 _)))); go_wp2_with (first | (go_at_call 54; refine (hn_6 _).mono ?_; rintro e w1 ⟨rfl, rfl⟩) | (go_at_call 57; refine (hm_6 _).mono ?_; rintro e w1 ⟨rfl, rfl⟩) | (go_at_call 55; refine (tm_6 _).mono ?_; rintro e w1 ⟨rfl, rfl⟩)); all_goals (go_ret; refine ⟨ret_int ?_, ?_⟩; (focus ((try simp only [toList_nil, toList_isEmpty, Bool.not_eq_true', Bool.not_eq_false', Bool.not_eq_eq_eq_not, Bool.not_true, Bool.not_false, decide_eq_false_iff_not, decide_eq_true_eq, bne_iff_ne, ne_eq, bne_eq_false_iff_eq, beq_iff_eq] at *); rw [checkS_mk]; (repeat' split) <;> first | rfl | (exfalso; omega))); (refine Keep.below (M := fun _ => False) ?_ (fun _ _ h => h); repeat (first | with_reducible exact Keep.refl _ _ | with_reducible refine Keep.drewN ?_ _ | with_reducible refine Keep.alloc ?_ _))))
set_option maxHeartbeats 1000000 in
theorem rcheck_7 (nm tx : ByteArray) (num most : Int) (w : World)  : Calls Try.prog 18 #[.agg #[.int .i64 7, .string nm, .string tx, .int .i64 num, .int .i64 most]] w fun e w' => e = .returned (.int .i64 (checkS ⟨7, nm, tx, num, most⟩)) ∧ Below w.heap.size w w' := by
  skip
  go_enter Try.func18, Try.ntmps18
  go_wp2_with (first | (go_at_call 54; refine (hn_7 _).mono ?_; rintro e w1 ⟨rfl, rfl⟩) | (go_at_call 57; refine (hm_7 _).mono ?_; rintro e w1 ⟨rfl, rfl⟩))
  all_goals first
    | (go_ret; refine ⟨ret_int ?_, (Below.refl _ _).alloc (Nat.le_refl _) _⟩; ((try simp only [toList_nil, toList_isEmpty, Bool.not_eq_true', Bool.not_eq_false', Bool.not_eq_eq_eq_not, Bool.not_true, Bool.not_false, decide_eq_false_iff_not, decide_eq_true_eq, bne_iff_ne, ne_eq, bne_eq_false_iff_eq, beq_iff_eq] at *); rw [checkS_mk]; (repeat' split) <;> first | rfl | (exfalso; omega)))
    | (go_quiet ((first | (go_at_call 55; exact Calls.quiet_of_same (tm_7 _)) | (go_at_call 56; exact Calls.quiet_of_same (tl_7 _)))); go_wp2_with (first | (go_at_call 54; refine (hn_7 _).mono ?_; rintro e w1 ⟨rfl, rfl⟩) | (go_at_call 57; refine (hm_7 _).mono ?_; rintro e w1 ⟨rfl, rfl⟩) | (go_at_call 55; refine (tm_7 _).mono ?_; rintro e w1 ⟨rfl, rfl⟩)); all_goals (go_ret; refine ⟨ret_int ?_, ?_⟩; (focus ((try simp only [toList_nil, toList_isEmpty, Bool.not_eq_true', Bool.not_eq_false', Bool.not_eq_eq_eq_not, Bool.not_true, Bool.not_false, decide_eq_false_iff_not, decide_eq_true_eq, bne_iff_ne, ne_eq, bne_eq_false_iff_eq, beq_iff_eq] at *); rw [checkS_mk]; (repeat' split) <;> first | rfl | (exfalso; omega))); (refine Keep.below (M := fun _ => False) ?_ (fun _ _ h => h); repeat (first | with_reducible exact Keep.refl _ _ | with_reducible refine Keep.drewN ?_ _ | with_reducible refine Keep.alloc ?_ _))))
set_option maxHeartbeats 1000000 in
theorem rcheck_8 (nm tx : ByteArray) (num most : Int) (w : World)  : Calls Try.prog 18 #[.agg #[.int .i64 8, .string nm, .string tx, .int .i64 num, .int .i64 most]] w fun e w' => e = .returned (.int .i64 (checkS ⟨8, nm, tx, num, most⟩)) ∧ Below w.heap.size w w' := by
  skip
  go_enter Try.func18, Try.ntmps18
  go_wp2_with (first | (go_at_call 54; refine (hn_8 _).mono ?_; rintro e w1 ⟨rfl, rfl⟩) | (go_at_call 57; refine (hm_8 _).mono ?_; rintro e w1 ⟨rfl, rfl⟩))
  all_goals first
    | (go_ret; refine ⟨ret_int ?_, (Below.refl _ _).alloc (Nat.le_refl _) _⟩; ((try simp only [toList_nil, toList_isEmpty, Bool.not_eq_true', Bool.not_eq_false', Bool.not_eq_eq_eq_not, Bool.not_true, Bool.not_false, decide_eq_false_iff_not, decide_eq_true_eq, bne_iff_ne, ne_eq, bne_eq_false_iff_eq, beq_iff_eq] at *); rw [checkS_mk]; (repeat' split) <;> first | rfl | (exfalso; omega)))
    | (go_quiet ((first | (go_at_call 55; exact Calls.quiet_of_same (tm_8 _)) | (go_at_call 56; exact Calls.quiet_of_same (tl_8 _)))); go_wp2_with (first | (go_at_call 54; refine (hn_8 _).mono ?_; rintro e w1 ⟨rfl, rfl⟩) | (go_at_call 57; refine (hm_8 _).mono ?_; rintro e w1 ⟨rfl, rfl⟩) | (go_at_call 55; refine (tm_8 _).mono ?_; rintro e w1 ⟨rfl, rfl⟩)); all_goals (go_ret; refine ⟨ret_int ?_, ?_⟩; (focus ((try simp only [toList_nil, toList_isEmpty, Bool.not_eq_true', Bool.not_eq_false', Bool.not_eq_eq_eq_not, Bool.not_true, Bool.not_false, decide_eq_false_iff_not, decide_eq_true_eq, bne_iff_ne, ne_eq, bne_eq_false_iff_eq, beq_iff_eq] at *); rw [checkS_mk]; (repeat' split) <;> first | rfl | (exfalso; omega))); (refine Keep.below (M := fun _ => False) ?_ (fun _ _ h => h); repeat (first | with_reducible exact Keep.refl _ _ | with_reducible refine Keep.drewN ?_ _ | with_reducible refine Keep.alloc ?_ _))))
set_option maxHeartbeats 1000000 in
theorem rcheck_3a (nm tx : ByteArray) (num most : Int) (w : World) (hx : tx.size ≤ 64) : Calls Try.prog 18 #[.agg #[.int .i64 3, .string nm, .string tx, .int .i64 num, .int .i64 most]] w fun e w' => e = .returned (.int .i64 (checkS ⟨3, nm, tx, num, most⟩)) ∧ Below w.heap.size w w' := by
  have h1 : decide ((tx.size : Int) < 0) = false := (by first | (simp; done) | (simp; omega) | omega); have h2 : decide ((64 : Int) < (tx.size : Int)) = false := (by first | (simp; done) | (simp; omega) | omega)
  go_enter Try.func18, Try.ntmps18
  go_wp2_with (first | (go_at_call 54; refine (hn_3 _).mono ?_; rintro e w1 ⟨rfl, rfl⟩) | (go_at_call 57; refine (hm_3 _).mono ?_; rintro e w1 ⟨rfl, rfl⟩))
  all_goals first
    | (go_ret; refine ⟨ret_int ?_, (Below.refl _ _).alloc (Nat.le_refl _) _⟩; ((try simp only [toList_nil, toList_isEmpty, Bool.not_eq_true', Bool.not_eq_false', Bool.not_eq_eq_eq_not, Bool.not_true, Bool.not_false, decide_eq_false_iff_not, decide_eq_true_eq, bne_iff_ne, ne_eq, bne_eq_false_iff_eq, beq_iff_eq] at *); rw [checkS_mk]; (repeat' split) <;> first | rfl | (exfalso; omega)))
    | (go_quiet ((first | (go_at_call 55; exact Calls.quiet_of_same (tm_3 _)) | (go_at_call 56; exact Calls.quiet_of_same (tl_3 _)))); go_wp2_with (first | (go_at_call 54; refine (hn_3 _).mono ?_; rintro e w1 ⟨rfl, rfl⟩) | (go_at_call 57; refine (hm_3 _).mono ?_; rintro e w1 ⟨rfl, rfl⟩) | (go_at_call 55; refine (tm_3 _).mono ?_; rintro e w1 ⟨rfl, rfl⟩)); all_goals (go_ret; refine ⟨ret_int ?_, ?_⟩; (focus ((try simp only [toList_nil, toList_isEmpty, Bool.not_eq_true', Bool.not_eq_false', Bool.not_eq_eq_eq_not, Bool.not_true, Bool.not_false, decide_eq_false_iff_not, decide_eq_true_eq, bne_iff_ne, ne_eq, bne_eq_false_iff_eq, beq_iff_eq] at *); rw [checkS_mk]; (repeat' split) <;> first | rfl | (exfalso; omega))); (refine Keep.below (M := fun _ => False) ?_ (fun _ _ h => h); repeat (first | with_reducible exact Keep.refl _ _ | with_reducible refine Keep.drewN ?_ _ | with_reducible refine Keep.alloc ?_ _))))
set_option maxHeartbeats 1000000 in
theorem rcheck_3b (nm tx : ByteArray) (num most : Int) (w : World) (hx : 64 < tx.size) : Calls Try.prog 18 #[.agg #[.int .i64 3, .string nm, .string tx, .int .i64 num, .int .i64 most]] w fun e w' => e = .returned (.int .i64 (checkS ⟨3, nm, tx, num, most⟩)) ∧ Below w.heap.size w w' := by
  have h1 : decide ((tx.size : Int) < 0) = false := (by first | (simp; done) | (simp; omega) | omega); have h2 : decide ((64 : Int) < (tx.size : Int)) = true := (by first | (simp; done) | (simp; omega) | omega)
  go_enter Try.func18, Try.ntmps18
  go_wp2_with (first | (go_at_call 54; refine (hn_3 _).mono ?_; rintro e w1 ⟨rfl, rfl⟩) | (go_at_call 57; refine (hm_3 _).mono ?_; rintro e w1 ⟨rfl, rfl⟩))
  all_goals first
    | (go_ret; refine ⟨ret_int ?_, (Below.refl _ _).alloc (Nat.le_refl _) _⟩; ((try simp only [toList_nil, toList_isEmpty, Bool.not_eq_true', Bool.not_eq_false', Bool.not_eq_eq_eq_not, Bool.not_true, Bool.not_false, decide_eq_false_iff_not, decide_eq_true_eq, bne_iff_ne, ne_eq, bne_eq_false_iff_eq, beq_iff_eq] at *); rw [checkS_mk]; (repeat' split) <;> first | rfl | (exfalso; omega)))
    | (go_quiet ((first | (go_at_call 55; exact Calls.quiet_of_same (tm_3 _)) | (go_at_call 56; exact Calls.quiet_of_same (tl_3 _)))); go_wp2_with (first | (go_at_call 54; refine (hn_3 _).mono ?_; rintro e w1 ⟨rfl, rfl⟩) | (go_at_call 57; refine (hm_3 _).mono ?_; rintro e w1 ⟨rfl, rfl⟩) | (go_at_call 55; refine (tm_3 _).mono ?_; rintro e w1 ⟨rfl, rfl⟩)); all_goals (go_ret; refine ⟨ret_int ?_, ?_⟩; (focus ((try simp only [toList_nil, toList_isEmpty, Bool.not_eq_true', Bool.not_eq_false', Bool.not_eq_eq_eq_not, Bool.not_true, Bool.not_false, decide_eq_false_iff_not, decide_eq_true_eq, bne_iff_ne, ne_eq, bne_eq_false_iff_eq, beq_iff_eq] at *); rw [checkS_mk]; (repeat' split) <;> first | rfl | (exfalso; omega))); (refine Keep.below (M := fun _ => False) ?_ (fun _ _ h => h); repeat (first | with_reducible exact Keep.refl _ _ | with_reducible refine Keep.drewN ?_ _ | with_reducible refine Keep.alloc ?_ _))))
set_option maxHeartbeats 1000000 in
theorem rcheck_5a (nm tx : ByteArray) (num most : Int) (w : World) (hx : 1 ≤ tx.size) (hy : tx.size ≤ 16) : Calls Try.prog 18 #[.agg #[.int .i64 5, .string nm, .string tx, .int .i64 num, .int .i64 most]] w fun e w' => e = .returned (.int .i64 (checkS ⟨5, nm, tx, num, most⟩)) ∧ Below w.heap.size w w' := by
  have h1 : decide ((tx.size : Int) < 1) = false := (by first | (simp; done) | (simp; omega) | omega); have h2 : decide ((16 : Int) < (tx.size : Int)) = false := (by first | (simp; done) | (simp; omega) | omega)
  go_enter Try.func18, Try.ntmps18
  go_wp2_with (first | (go_at_call 54; refine (hn_5 _).mono ?_; rintro e w1 ⟨rfl, rfl⟩) | (go_at_call 57; refine (hm_5 _).mono ?_; rintro e w1 ⟨rfl, rfl⟩))
  all_goals first
    | (go_ret; refine ⟨ret_int ?_, (Below.refl _ _).alloc (Nat.le_refl _) _⟩; ((try simp only [toList_nil, toList_isEmpty, Bool.not_eq_true', Bool.not_eq_false', Bool.not_eq_eq_eq_not, Bool.not_true, Bool.not_false, decide_eq_false_iff_not, decide_eq_true_eq, bne_iff_ne, ne_eq, bne_eq_false_iff_eq, beq_iff_eq] at *); rw [checkS_mk]; (repeat' split) <;> first | rfl | (exfalso; omega)))
    | (go_quiet ((first | (go_at_call 55; exact Calls.quiet_of_same (tm_5 _)) | (go_at_call 56; exact Calls.quiet_of_same (tl_5 _)))); go_wp2_with (first | (go_at_call 54; refine (hn_5 _).mono ?_; rintro e w1 ⟨rfl, rfl⟩) | (go_at_call 57; refine (hm_5 _).mono ?_; rintro e w1 ⟨rfl, rfl⟩) | (go_at_call 55; refine (tm_5 _).mono ?_; rintro e w1 ⟨rfl, rfl⟩)); all_goals (go_ret; refine ⟨ret_int ?_, ?_⟩; (focus ((try simp only [toList_nil, toList_isEmpty, Bool.not_eq_true', Bool.not_eq_false', Bool.not_eq_eq_eq_not, Bool.not_true, Bool.not_false, decide_eq_false_iff_not, decide_eq_true_eq, bne_iff_ne, ne_eq, bne_eq_false_iff_eq, beq_iff_eq] at *); rw [checkS_mk]; (repeat' split) <;> first | rfl | (exfalso; omega))); (refine Keep.below (M := fun _ => False) ?_ (fun _ _ h => h); repeat (first | with_reducible exact Keep.refl _ _ | with_reducible refine Keep.drewN ?_ _ | with_reducible refine Keep.alloc ?_ _))))
set_option maxHeartbeats 1000000 in
theorem rcheck_5b (nm tx : ByteArray) (num most : Int) (w : World) (hx : tx.size < 1) : Calls Try.prog 18 #[.agg #[.int .i64 5, .string nm, .string tx, .int .i64 num, .int .i64 most]] w fun e w' => e = .returned (.int .i64 (checkS ⟨5, nm, tx, num, most⟩)) ∧ Below w.heap.size w w' := by
  have h1 : decide ((tx.size : Int) < 1) = true := (by first | (simp; done) | (simp; omega) | omega)
  go_enter Try.func18, Try.ntmps18
  go_wp2_with (first | (go_at_call 54; refine (hn_5 _).mono ?_; rintro e w1 ⟨rfl, rfl⟩) | (go_at_call 57; refine (hm_5 _).mono ?_; rintro e w1 ⟨rfl, rfl⟩))
  all_goals first
    | (go_ret; refine ⟨ret_int ?_, (Below.refl _ _).alloc (Nat.le_refl _) _⟩; ((try simp only [toList_nil, toList_isEmpty, Bool.not_eq_true', Bool.not_eq_false', Bool.not_eq_eq_eq_not, Bool.not_true, Bool.not_false, decide_eq_false_iff_not, decide_eq_true_eq, bne_iff_ne, ne_eq, bne_eq_false_iff_eq, beq_iff_eq] at *); rw [checkS_mk]; (repeat' split) <;> first | rfl | (exfalso; omega)))
    | (go_quiet ((first | (go_at_call 55; exact Calls.quiet_of_same (tm_5 _)) | (go_at_call 56; exact Calls.quiet_of_same (tl_5 _)))); go_wp2_with (first | (go_at_call 54; refine (hn_5 _).mono ?_; rintro e w1 ⟨rfl, rfl⟩) | (go_at_call 57; refine (hm_5 _).mono ?_; rintro e w1 ⟨rfl, rfl⟩) | (go_at_call 55; refine (tm_5 _).mono ?_; rintro e w1 ⟨rfl, rfl⟩)); all_goals (go_ret; refine ⟨ret_int ?_, ?_⟩; (focus ((try simp only [toList_nil, toList_isEmpty, Bool.not_eq_true', Bool.not_eq_false', Bool.not_eq_eq_eq_not, Bool.not_true, Bool.not_false, decide_eq_false_iff_not, decide_eq_true_eq, bne_iff_ne, ne_eq, bne_eq_false_iff_eq, beq_iff_eq] at *); rw [checkS_mk]; (repeat' split) <;> first | rfl | (exfalso; omega))); (refine Keep.below (M := fun _ => False) ?_ (fun _ _ h => h); repeat (first | with_reducible exact Keep.refl _ _ | with_reducible refine Keep.drewN ?_ _ | with_reducible refine Keep.alloc ?_ _))))
set_option maxHeartbeats 1000000 in
theorem rcheck_5c (nm tx : ByteArray) (num most : Int) (w : World) (hx : 16 < tx.size) : Calls Try.prog 18 #[.agg #[.int .i64 5, .string nm, .string tx, .int .i64 num, .int .i64 most]] w fun e w' => e = .returned (.int .i64 (checkS ⟨5, nm, tx, num, most⟩)) ∧ Below w.heap.size w w' := by
  have h1 : decide ((tx.size : Int) < 1) = false := (by first | (simp; done) | (simp; omega) | omega); have h2 : decide ((16 : Int) < (tx.size : Int)) = true := (by first | (simp; done) | (simp; omega) | omega)
  go_enter Try.func18, Try.ntmps18
  go_wp2_with (first | (go_at_call 54; refine (hn_5 _).mono ?_; rintro e w1 ⟨rfl, rfl⟩) | (go_at_call 57; refine (hm_5 _).mono ?_; rintro e w1 ⟨rfl, rfl⟩))
  all_goals first
    | (go_ret; refine ⟨ret_int ?_, (Below.refl _ _).alloc (Nat.le_refl _) _⟩; ((try simp only [toList_nil, toList_isEmpty, Bool.not_eq_true', Bool.not_eq_false', Bool.not_eq_eq_eq_not, Bool.not_true, Bool.not_false, decide_eq_false_iff_not, decide_eq_true_eq, bne_iff_ne, ne_eq, bne_eq_false_iff_eq, beq_iff_eq] at *); rw [checkS_mk]; (repeat' split) <;> first | rfl | (exfalso; omega)))
    | (go_quiet ((first | (go_at_call 55; exact Calls.quiet_of_same (tm_5 _)) | (go_at_call 56; exact Calls.quiet_of_same (tl_5 _)))); go_wp2_with (first | (go_at_call 54; refine (hn_5 _).mono ?_; rintro e w1 ⟨rfl, rfl⟩) | (go_at_call 57; refine (hm_5 _).mono ?_; rintro e w1 ⟨rfl, rfl⟩) | (go_at_call 55; refine (tm_5 _).mono ?_; rintro e w1 ⟨rfl, rfl⟩)); all_goals (go_ret; refine ⟨ret_int ?_, ?_⟩; (focus ((try simp only [toList_nil, toList_isEmpty, Bool.not_eq_true', Bool.not_eq_false', Bool.not_eq_eq_eq_not, Bool.not_true, Bool.not_false, decide_eq_false_iff_not, decide_eq_true_eq, bne_iff_ne, ne_eq, bne_eq_false_iff_eq, beq_iff_eq] at *); rw [checkS_mk]; (repeat' split) <;> first | rfl | (exfalso; omega))); (refine Keep.below (M := fun _ => False) ?_ (fun _ _ h => h); repeat (first | with_reducible exact Keep.refl _ _ | with_reducible refine Keep.drewN ?_ _ | with_reducible refine Keep.alloc ?_ _))))
end Go.Proofs.Ytfahakmnlmlgcaa
