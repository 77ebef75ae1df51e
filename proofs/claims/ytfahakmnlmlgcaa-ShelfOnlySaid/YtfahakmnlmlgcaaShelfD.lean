/-
  Contracts of the shelf's methods that change one slot: make, drop, push, take, trim.
-/
import Derived.Test.YtfahakmnlmlgcaaShelfC
import Derived.Deep.RegionLaw
import Derived.Deep.QuietTactic
import Derived.BigQuiet
namespace Go.Proofs.Ytfahakmnlmlgcaa
open Go.RowKit Go.Lib
set_option linter.unusedVariables false
set_option linter.unusedSimpArgs false


theorem drop_any (F : Nat → Prop) (w : World) (g i : Nat) (S : Nat → Option Qu) (o : OpS) (h : ShelfAt F w g S) (hi : i < 8) :
    Calls Try.prog 75 #[.pointer (some ⟨g, 0, none⟩), .int .i64 i, o.val] w fun e w' => e = .returned (.agg #[.int .i64 0, .int .i64 0, .slice none 0 0]) ∧ ShelfAt (Grow F w w') w' g (put S i none) ∧ Keep F w w' := by
  have hg := h.lt
  obtain ⟨cs, s, G, hh, hz, h0, h1, h2, h3, h4, hs, hF, hG, back⟩ := h.focus i hi
  have ⟨hc, hf⟩ := cells_of_heap hh
  clear hs h
  unfold OpS.val
  go_enter Try.func75, Try.ntmps75
  go_wp2
  have e1 := heap_setCell (heap_setCell (heap_setCell (heap_setCell (heap_setCell hh (o := i * 5) (.bool false)) (o := i * 5 + 1) (.string ByteArray.empty)) (o := i * 5 + 2) (.int .i64 0)) (o := i * 5 + 3) (.slice none 0 0)) (o := i * 5 + 4) (.map none)
  have k1 : Keep (fun k => k = g) w _ := ((((((((Keep.refl (fun k => k = g) w).setCell (a := ⟨g, i * 5, none⟩) (.inl rfl) (.bool false)).setCell (a := ⟨g, i * 5 + 1, none⟩) (.inl rfl) (.string ByteArray.empty)).setCell (a := ⟨g, i * 5 + 2, none⟩) (.inl rfl) (.int .i64 0)).setCell
    (a := ⟨g, i * 5 + 3, none⟩) (.inl rfl) (.slice none 0 0)).setCell (a := ⟨g, i * 5 + 4, none⟩) (.inl rfl) (.map none)).alloc (.cells #[.int .i64 o.kind, .string o.name, .string o.text, .int .i64 o.num, .int .i64 o.most] 33)).alloc (.cells #[.int .i64 0, .int .i64 0, .slice none 0 0] 28))
  refine bodyPost_ret (v := .agg #[.int .i64 0, .int .i64 0, .slice none 0 0]) (by simp [results, Try.results75, go_sem]) rfl ⟨rfl, ?_, k1.mono (fun k _ hk => hk ▸ hF)⟩
  obtain ⟨z1, z2, z3⟩ := set5_spec cs i SC.zero hz hi
  refine (back _ (set5 cs i SC.zero) SC.zero none (fun _ => False) ?_ z1 z2 z3 (k1.mono (fun k _ hk => .inl hk)) rfl (by simp)).mono (fun k hk => .inl (hk.elim id False.elim))
  exact (Below.heap_alloc _ _ _ (by simp [World.setCell]; omega)).trans ((Below.heap_alloc _ _ _ (by simpa [World.setCell] using hg)).trans e1)

theorem make_any (F : Nat → Prop) (w : World) (g i : Nat) (S : Nat → Option Qu) (o : OpS) (h : ShelfAt F w g S) (hi : i < 8) :
    Calls Try.prog 74 #[.pointer (some ⟨g, 0, none⟩), .int .i64 i, o.val] w fun e w' => e = .returned (.agg #[.int .i64 0, .int .i64 0, .slice none 0 0]) ∧ ShelfAt (Grow F w w') w' g (put S i (some ⟨o.name, 0, [], []⟩)) ∧ Keep F w w' := by
  have hg := h.lt
  obtain ⟨cs, s, G, hh, hz, h0, h1, h2, h3, h4, hs, hF, hG, back⟩ := h.focus i hi
  have ⟨hc, hf⟩ := cells_of_heap hh
  clear hs h
  have hmm := @run_makeMap Try.prog
  have hi' : (i : Int) < 8 := by omega
  have hW : ∀ a b c k v, cs[k]? = some v → (((w.alloc a).alloc b).alloc c).cell? ⟨g, k, none⟩ = some v := by
    intro a b c k v hv
    rw [World.cell?_alloc_lt _ _ _ (by simp; omega), World.cell?_alloc_lt _ _ _ (by simp; omega), World.cell?_alloc_lt _ _ _ hg, hc, hv]
  have hWf : ∀ a b c k, (((w.alloc a).alloc b).alloc c).frozen? ⟨g, k, none⟩ = false := by
    intro a b c k
    rw [World.frozen?_alloc_past _ _ _ (by simp; omega), World.frozen?_alloc_past _ _ _ (by simp; omega), World.frozen?_alloc_past _ _ _ hg, hf]
  have f0 := fun a b c => hW a b c _ _ h0
  have f1 := fun a b c => hW a b c _ _ h1
  have f2 := fun a b c => hW a b c _ _ h2
  have f3 := fun a b c => hW a b c _ _ h3
  have f4 := fun a b c => hW a b c _ _ h4
  clear hW
  unfold OpS.val
  go_enter Try.func74, Try.ntmps74
  go_wp2
  go_region
  go_wp2
  have hne : g ≠ w.heap.size + 1 := by omega
  refine bodyPost_ret (v := .agg #[.int .i64 0, .int .i64 0, .slice none 0 0]) (by simp [results, Try.results74, go_sem]) rfl ⟨rfl, ?_, ?_⟩
  · obtain ⟨z1, z2, z3⟩ := set5_spec cs i ⟨true, o.name, 0, none, 0, 0, some (w.heap.size + 1 + 1)⟩ hz hi
    refine (back _ (set5 cs i ⟨true, o.name, 0, none, 0, 0, some (w.heap.size + 1 + 1)⟩) _ (some ⟨o.name, 0, [], []⟩) (fun k => k = w.heap.size + 1 + 1) ?_ z1 z2 z3 ?_ ⟨rfl, rfl, rfl, rfl, Row.nil _ _ _ _, _, rfl, rfl, ?_⟩ ?_).mono (fun k hk => hk.elim .inl (fun e => .inr ⟨by omega, by subst e; simp [hp_drew, hp_size_set]⟩))
    · simp only [hp_drew, hp_set_other hne]
      exact heap_setCell (heap_setCell (heap_setCell (heap_setCell (heap_setCell ((hp_alloc_lt (by simp; omega) _).trans ((hp_alloc_lt (by simp; omega) _).trans ((hp_alloc_lt hg _).trans hh))) _) _) _) _) _
    · (repeat (first | with_reducible exact Keep.refl _ _ | with_reducible exact hk1 _ | with_reducible exact hk2 | with_reducible refine Keep.drew ?_ | with_reducible refine Keep.alloc ?_ _ | with_reducible refine Keep.setCell ?_ (by first | exact Or.inl (Or.inl rfl) | exact Or.inl (Or.inr rfl) | exact Or.inl rfl | (right; simp; done) | (right; simp; omega) | (right; omega)) _))
    · refine mapAt_empty ?_
      simp only [hp_drew, hp_set_other (show w.heap.size + 1 + 1 ≠ w.heap.size + 1 by omega), hp_set_other (show w.heap.size + 1 + 1 ≠ g by omega)]
      exact hp_alloc_new (by simp) _
    · intro k hk; right; subst hk; exact ⟨by omega, by simp [hp_drew, hp_size_set]⟩
  · refine Keep.mono (M := fun k => k = g) ?_ (fun k _ hk => hk ▸ hF)
    (repeat (first | with_reducible exact Keep.refl _ _ | with_reducible exact hk1 _ | with_reducible exact hk2 | with_reducible refine Keep.drew ?_ | with_reducible refine Keep.alloc ?_ _ | with_reducible refine Keep.setCell ?_ (by first | exact Or.inl (Or.inl rfl) | exact Or.inl (Or.inr rfl) | exact Or.inl rfl | (right; simp; done) | (right; simp; omega) | (right; omega)) _))

theorem push_full (F : Nat → Prop) (w : World) (g i : Nat) (S : Nat → Option Qu) (o : OpS) (q : Qu) (h : ShelfAt F w g S) (hi : i < 8) (hq : S i = some q) (hb : q.first + q.items.length ≤ 1099511627776)
    (hfull : 32 ≤ q.items.length ∨ 1099511627776 ≤ q.first + q.items.length) :
    Calls Try.prog 76 #[.pointer (some ⟨g, 0, none⟩), .int .i64 i, o.val] w fun e w' => e = .returned (.agg #[.int .i64 3, .int .i64 0, .slice none 0 0]) ∧ Below w.heap.size w w' := by
  have hg := h.lt
  obtain ⟨cs, s, G, hh, hz, h0, h1, h2, h3, h4, hs, hF, hG, back⟩ := h.focus i hi
  have ⟨hc, hf⟩ := cells_of_heap hh
  rw [hq] at hs
  obtain ⟨s1, s2, s3, s4, s5, b, s6, s7, s8⟩ := hs
  rw [← s4] at hb hfull
  rw [← s3] at hb hfull
  clear s1 s2 s3 s4 s6 back
  unfold OpS.val
  go_enter Try.func76, Try.ntmps76
  go_wp2_with (go_at_call 82; (refine (end_any _ _ _ _ _ _ _ _ (by omega) (by omega)).mono ?_; rintro e w1 ⟨rfl, hbl⟩; have hga := (hbl.block g (by first | (simp; done) | (simp; omega) | omega)).trans ((hp_alloc_lt (by first | (simp; done) | (simp; omega) | omega) _).trans ((hp_alloc_lt hg _).trans hh)); have ⟨ca, fa⟩ := cells_of_heap hga; have hgb := (hbl.block w.heap.size (by first | (simp; done) | (simp; omega) | omega)).trans ((hp_alloc_lt (by first | (simp; done) | (simp; omega) | omega) _).trans (heap_alloc_new w _)); have ⟨cb, fb⟩ := cells_of_heap hgb; have hgc := (hbl.block (w.heap.size + 1) (by first | (simp; done) | (simp; omega) | omega)).trans (hp_alloc_new (by first | (simp; done) | (simp; omega) | omega) _); have ⟨cc, fc⟩ := cells_of_heap hgc; have hz1 : w.heap.size + 1 < w1.heap.size := (by have := hbl.size; simp at this; omega); have hk1 : ∀ M, Keep M w w1 := fun M => (((Keep.refl M w).alloc _).alloc _).trans (Keep.of_below hbl) (fun _ _ h => h)))
  all_goals
    refine bodyPost_ret (v := .agg #[.int .i64 3, .int .i64 0, .slice none 0 0]) (by simp [results, Try.results76, go_sem, cc]) rfl ⟨rfl, ?_⟩
    (refine Keep.below (M := fun _ => False) ?_ (fun _ _ h => h)); (repeat (first | with_reducible exact Keep.refl _ _ | with_reducible exact hk1 _ | with_reducible exact hk2 | with_reducible refine Keep.drew ?_ | with_reducible refine Keep.alloc ?_ _ | with_reducible refine Keep.setCell ?_ (by first | exact Or.inl (Or.inl rfl) | exact Or.inl (Or.inr rfl) | exact Or.inl rfl | (right; simp; done) | (right; simp; omega) | (right; omega)) _))

set_option maxRecDepth 100000 in
theorem push_ok (F : Nat → Prop) (w : World) (g i : Nat) (S : Nat → Option Qu) (o : OpS) (q : Qu) (h : ShelfAt F w g S) (hi : i < 8) (hq : S i = some q) (hroom : q.items.length < 32) (hb : q.first + q.items.length < 1099511627776) :
    Calls Try.prog 76 #[.pointer (some ⟨g, 0, none⟩), .int .i64 i, o.val] w fun e w' => e = .returned (.agg #[.int .i64 0, .int .i64 ((q.first + q.items.length : Nat) : Int), .slice none 0 0]) ∧
      ShelfAt (Grow F w w') w' g (put S i (some ⟨q.name, q.first, q.items ++ [o.text], q.groups⟩)) ∧ Keep F w w' := by
  obtain ⟨i0, hi0, iz0, iz1, iz2⟩ := info_parts Try.infoString
  have hg := h.lt
  obtain ⟨cs, s, G, hh, hz, h0, h1, h2, h3, h4, hs, hF, hG, back⟩ := h.focus i hi
  have ⟨hc, hf⟩ := cells_of_heap hh
  rw [hq] at hs
  obtain ⟨s1, s2, s3, s4, s5, b, s6, s7, s8⟩ := hs
  have hi' : (i : Int) < 8 := by omega
  rw [← s4] at hb hroom ⊢
  rw [← s3] at hb ⊢
  have S1 := Lib.hid s1
  have S2 := Lib.hid s2
  have S3 := Lib.hid s3
  have S4 := Lib.hid s4
  have S6 := Lib.hid s6
  clear s1 s2 s3 s4 s6
  unfold OpS.val
  go_enter Try.func76, Try.ntmps76
  go_wp2_with (go_at_call 82; refine (end_any _ _ _ _ _ _ _ _ (by omega) (by omega)).mono ?_; rintro e w1 ⟨rfl, hbl⟩; have hga := (hbl.block g (by first | (simp; done) | (simp; omega) | omega)).trans ((hp_alloc_lt (by first | (simp; done) | (simp; omega) | omega) _).trans ((hp_alloc_lt hg _).trans hh)); have ⟨ca, fa⟩ := cells_of_heap hga; have hgb := (hbl.block w.heap.size (by first | (simp; done) | (simp; omega) | omega)).trans ((hp_alloc_lt (by first | (simp; done) | (simp; omega) | omega) _).trans (heap_alloc_new w _)); have ⟨cb, fb⟩ := cells_of_heap hgb; have hgc := (hbl.block (w.heap.size + 1) (by first | (simp; done) | (simp; omega) | omega)).trans (hp_alloc_new (by first | (simp; done) | (simp; omega) | omega) _); have ⟨cc, fc⟩ := cells_of_heap hgc; have hz1 : w.heap.size + 1 < w1.heap.size := (by have := hbl.size; simp at this; omega); have hk1 : ∀ M, Keep M w w1 := fun M => (((Keep.refl M w).alloc _).alloc _).trans (Keep.of_below hbl) (fun _ _ h => h))
  have r1 := s5.keep (hk1 (fun _ => False)) (fun _ _ h => h)
  have hgl1 : g < w1.heap.size := by omega
  go_region_law (refine step_app rfl _ _ 26 rfl 9 i0 (.string ⟨#[]⟩) 1 16 Try.underlying26 hi0 iz0 iz1 iz2 rfl (by decide) ((r1.alloc _).drew) (Src.one _ _ _ rfl) rfl rfl ?_ ?_ ?_; (unfold maxLen; omega); omega; intro A' c' w2 hown hgr; have hge := (hgr.block g (by simp; omega) (fun e => r1.ne_block hga (by decide) e.symm)).trans ((hp_alloc_lt hgl1 _).trans hga); have hgf := (hgr.block (w.heap.size + 1) (by simp; omega) (fun e => r1.ne_block hgc (by decide) e.symm)).trans ((hp_alloc_lt (by omega) _).trans hgc); have ⟨ce, fe⟩ := cells_of_heap hge; have ⟨cf, ff⟩ := cells_of_heap hgf; have ce3 := (ce (i * 5 + 3)).trans h3; have hk2 : Keep (fun k => k = g ∨ G k) w w2 := (((hk1 _).alloc _).drew).grown hgr (fun k hk => .inl (.inr (r1.2 k hk))))
  go_wp2
  all_goals
    have hne : g ≠ w.heap.size + 1 := by omega
    refine bodyPost_ret (v := .agg #[.int .i64 0, .int .i64 ((s.first : Int) + (s.n : Int)), .slice none 0 0]) (by simp [results, Try.results76, go_sem, cf]) rfl ⟨by rw [Int.natCast_add], ?_, ?_⟩
    · obtain ⟨z1, z2, z3⟩ := set1_spec cs i 3 (.slice A' (s.n + 1) c') s ⟨s.used, s.name, s.first, A', s.n + 1, c', s.m⟩ hz hi (by omega) h0 h1 h2 h3 h4 rfl (sc3 s A' (s.n + 1) c')
      refine (back _ (cs.setIfInBounds (i * 5 + 3) (.slice A' (s.n + 1) c')) ⟨s.used, s.name, s.first, A', s.n + 1, c', s.m⟩ (some ⟨q.name, s.first, q.items ++ [o.text], q.groups⟩) (Grow G w _) ?_ z1 z2 z3 ?_ ⟨S1.out, S2.out, rfl, by simp [S4.out], ?_, b, S6.out, .inl s7, ?_⟩ (fun k hk => hk)).mono (fun k hk => hk.elim .inl (fun h => h.elim (fun h => .inl (hG k h).1) .inr))
      · simp only [hp_drew, hp_set_other hne]
        exact heap_setCell hge _
      · (repeat (first | with_reducible exact Keep.refl _ _ | with_reducible exact hk1 _ | with_reducible exact hk2 | with_reducible refine Keep.drew ?_ | with_reducible refine Keep.alloc ?_ _ | with_reducible refine Keep.setCell ?_ (by first | exact Or.inl (Or.inl rfl) | exact Or.inl (Or.inr rfl) | exact Or.inl rfl | (right; simp; done) | (right; simp; omega) | (right; omega)) _))
      · have hb1 := hown.1.lt
        refine ⟨Keep.row (M := fun k => k = g ∨ k = w.heap.size + 1) ?_ (by rw [textsV_append]; exact hown.1) (fun k hk => ?_), fun k hk => ?_⟩
        · (repeat (first | with_reducible exact Keep.refl _ _ | with_reducible exact hk1 _ | with_reducible exact hk2 | with_reducible refine Keep.drew ?_ | with_reducible refine Keep.alloc ?_ _ | with_reducible refine Keep.setCell ?_ (by first | exact Or.inl (Or.inl rfl) | exact Or.inl (Or.inr rfl) | exact Or.inl rfl | (right; simp; done) | (right; simp; omega) | (right; omega)) _))
        · rintro (rfl | rfl)
          · exact hown.ne_block hge (by decide) hk
          · exact hown.ne_block hgf (by decide) hk
        · rcases hown.2 k hk with h9 | h9
          · exact .inl h9
          · exact .inr ⟨by have := h9.1; simp at this; omega, by have := h9.2; simpa [hp_size_set] using this⟩
      · have hbl2 := s8.lt
        have hbg : b ≠ g := (hG b s7).2
        refine s8.same ?_
        simp only [hp_set_other hbg, hp_set_other (show b ≠ w.heap.size + 1 by omega)]
        have m1 := s8.keep (hk1 (fun _ => False)) (fun h => h)
        rw [hgr.block b (by simp; omega) (fun e => m1.ne_row r1 e.symm)]
        exact (hp_alloc_lt (by omega) _).trans ((hk1 (fun _ => False)).block b hbl2 (fun h => h))
    · refine Keep.mono (M := fun k => k = g ∨ G k) ?_ (fun k _ hk => hk.elim (fun e => e ▸ hF) (fun e => (hG k e).1))
      (repeat (first | with_reducible exact Keep.refl _ _ | with_reducible exact hk1 _ | with_reducible exact hk2 | with_reducible refine Keep.drew ?_ | with_reducible refine Keep.alloc ?_ _ | with_reducible refine Keep.setCell ?_ (by first | exact Or.inl (Or.inl rfl) | exact Or.inl (Or.inr rfl) | exact Or.inl rfl | (right; simp; done) | (right; simp; omega) | (right; omega)) _))
end Go.Proofs.Ytfahakmnlmlgcaa
