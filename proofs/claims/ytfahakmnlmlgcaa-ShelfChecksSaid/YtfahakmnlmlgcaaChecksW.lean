/-
  The walk of the statement ShelfChecks.
-/
import Derived.Test.YtfahakmnlmlgcaaRefChk2
import Derived.Test.YtfahakmnlmlgcaaShown
namespace Go.Proofs.Ytfahakmnlmlgcaa
open Go.RowKit Go.Lib
set_option linter.unusedVariables false
set_option linter.unusedSimpArgs false

set_option maxRecDepth 100000 in
set_option maxHeartbeats 1000000 in
theorem lawChecks (w : World) (o : OpS) (code num kind : Int) (items : List ByteArray) (v : Value) (hs : Src w 1 v items.length (textsV items)) (hl : items.length ≤ 9223372036854775807) :
    Calls Try.prog 4 #[o.val, .agg #[.int .i64 code, .int .i64 num, v], .int .i64 kind] w fun e w' => e = .returned (.bool true) ∧ Below w.heap.size w w' := by
  have h1 := fun W => check_any o W
  have h2 := fun W => rcheck_any o W
  have h3 := fun W h => checkRes_any code num items v W _ rfl h hl
  have h4 := fun W h => rcheckRes_any code num items v W _ rfl h hl
  generalize checkS o = ck at h1 h2
  generalize checkResS code num items = cr at h3 h4
  obtain ⟨ok, nm, tx, on, om⟩ := o
  obtain ⟨A, c, rfl⟩ := hs.form
  generalize items.length = n at *
  unfold OpS.val at h1 h2 ⊢
  simp only at h1 h2 ⊢
  have ho := (hp_alloc_lt (w := w.alloc (.cells #[.int .i64 ok, .string nm, .string tx, .int .i64 on, .int .i64 om] 33)) (k := w.heap.size) (by simp) (.cells #[.int .i64 code, .int .i64 num, .slice A n c] 28)).trans (heap_alloc_new w _)
  have hx := hp_alloc_new (w := w.alloc (.cells #[.int .i64 ok, .string nm, .string tx, .int .i64 on, .int .i64 om] 33)) (k := w.heap.size + 1) (by simp) (.cells #[.int .i64 code, .int .i64 num, .slice A n c] 28)
  have hs := (hs.alloc (.cells #[.int .i64 ok, .string nm, .string tx, .int .i64 on, .int .i64 om] 33)).alloc (.cells #[.int .i64 code, .int .i64 num, .slice A n c] 28)
  have kb : Below w.heap.size w ((w.alloc (.cells #[.int .i64 ok, .string nm, .string tx, .int .i64 on, .int .i64 om] 33)).alloc (.cells #[.int .i64 code, .int .i64 num, .slice A n c] 28)) := ((Below.refl _ _).alloc (Nat.le_refl _) _).alloc (by simp) _
  have HS := Lib.hid hs
  have HO := Lib.hid ho
  have HX := Lib.hid hx
  clear hs ho hx
  go_enter Try.func4, Try.ntmps4
  go_wp2_with fail
  refine (shown_any _).mono ?_
  rintro e w1 ⟨rfl, hb⟩
  (have HO := Lib.hid ((hb.block _ (lt_of_heap HO.out)).trans HO.out); have HX := Lib.hid ((hb.block _ (lt_of_heap HX.out)).trans HX.out); have HS := Lib.hid (HS.out.below hb); have ⟨co, fo⟩ := cells_of_heap HO.out; have ⟨cx, fx⟩ := cells_of_heap HX.out; have kb := kb.trans (hb.mono kb.size))
  go_wp2_with fail
  refine (h1 _).mono ?_
  rintro e w2 ⟨rfl, hb⟩
  (have HO := Lib.hid ((hb.block _ (lt_of_heap HO.out)).trans HO.out); have HX := Lib.hid ((hb.block _ (lt_of_heap HX.out)).trans HX.out); have HS := Lib.hid (HS.out.below hb); have ⟨co, fo⟩ := cells_of_heap HO.out; have ⟨cx, fx⟩ := cells_of_heap HX.out; have kb := kb.trans (hb.mono kb.size))
  go_wp2_with fail
  refine (h3 _ HS.out).mono ?_
  rintro e w3 ⟨rfl, hb⟩
  (have HO := Lib.hid ((hb.block _ (lt_of_heap HO.out)).trans HO.out); have HX := Lib.hid ((hb.block _ (lt_of_heap HX.out)).trans HX.out); have HS := Lib.hid (HS.out.below hb); have ⟨co, fo⟩ := cells_of_heap HO.out; have ⟨cx, fx⟩ := cells_of_heap HX.out; have kb := kb.trans (hb.mono kb.size))
  go_wp2_with (first | (go_at_call 17; refine (query_any _ _).mono ?_; rintro e w' ⟨rfl, rfl⟩))
  refine (h2 _).mono ?_
  rintro e w4 ⟨rfl, hb⟩
  (have HO := Lib.hid ((hb.block _ (lt_of_heap HO.out)).trans HO.out); have HX := Lib.hid ((hb.block _ (lt_of_heap HX.out)).trans HX.out); have HS := Lib.hid (HS.out.below hb); have ⟨co, fo⟩ := cells_of_heap HO.out; have ⟨cx, fx⟩ := cells_of_heap HX.out; have kb := kb.trans (hb.mono kb.size))
  go_wp2_with fail
  refine (h4 _ HS.out).mono ?_
  rintro e w5 ⟨rfl, hb⟩
  (have HO := Lib.hid ((hb.block _ (lt_of_heap HO.out)).trans HO.out); have HX := Lib.hid ((hb.block _ (lt_of_heap HX.out)).trans HX.out); have HS := Lib.hid (HS.out.below hb); have ⟨co, fo⟩ := cells_of_heap HO.out; have ⟨cx, fx⟩ := cells_of_heap HX.out; have kb := kb.trans (hb.mono kb.size))
  go_wp2_with (first | (go_at_call 20; refine (rquery_any _ _).mono ?_; rintro e w' ⟨rfl, rfl⟩))
  go_ret
  exact ⟨by simp, kb⟩
end Go.Proofs.Ytfahakmnlmlgcaa
