/-
  The contract of the shelf's read.
-/
import Derived.Test.YtfahakmnlmlgcaaShelfE
namespace Go.Proofs.Ytfahakmnlmlgcaa
open Go.RowKit Go.Lib
set_option linter.unusedVariables false
set_option linter.unusedSimpArgs false

theorem read_any (F : Nat → Prop) (w : World) (g i : Nat) (S : Nat → Option Qu) (nm tx : ByteArray) (kind : Int) (num most : Nat) (q : Qu) (h : ShelfAt F w g S) (hi : i < 8) (hq : S i = some q) (hb : q.first + q.items.length ≤ 1099511627776)
    (hn : num ≤ 1099511627776) (hm : most ≤ 8) (hge : q.first + q.items.length ≤ max num q.first) :
    Calls Try.prog 79 #[.pointer (some ⟨g, 0, none⟩), .int .i64 i, (OpS.mk kind nm tx num most).val] w fun e w' => e = .returned (.agg #[.int .i64 0, .int .i64 num, .slice none 0 0]) ∧ Below w.heap.size w w' := by
  have hg := h.lt
  obtain ⟨cs, s, G, hh, hz, h0, h1, h2, h3, h4, hs, hF, hG, back⟩ := h.focus i hi
  have ⟨hc, hf⟩ := cells_of_heap hh
  rw [hq] at hs
  obtain ⟨s1, s2, s3, s4, s5, b, s6, s7, s8⟩ := hs
  have hi' : (i : Int) < 8 := by omega
  rw [← s4] at hb hge
  rw [← s3] at hb hge
  clear s1 s2 s3 s4 s6 back
  unfold OpS.val
  go_enter Try.func79, Try.ntmps79
  go_wp2_with (go_at_call 82; refine (end_any _ _ _ _ _ _ _ _ (by omega) (by omega)).mono ?_; rintro e w1 ⟨rfl, hbl⟩; have hga := (hbl.block g (by first | (simp; done) | (simp; omega) | omega)).trans ((hp_alloc_lt (by first | (simp; done) | (simp; omega) | omega) _).trans ((hp_alloc_lt (by first | (simp; done) | (simp; omega) | omega) _).trans ((hp_alloc_lt hg _).trans hh))); have ⟨ca, fa⟩ := cells_of_heap hga; have hgb := (hbl.block w.heap.size (by first | (simp; done) | (simp; omega) | omega)).trans ((hp_alloc_lt (by first | (simp; done) | (simp; omega) | omega) _).trans ((hp_alloc_lt (by first | (simp; done) | (simp; omega) | omega) _).trans (heap_alloc_new w _))); have ⟨cb, fb⟩ := cells_of_heap hgb; have hgc := (hbl.block (w.heap.size + 1) (by first | (simp; done) | (simp; omega) | omega)).trans ((hp_alloc_lt (by first | (simp; done) | (simp; omega) | omega) _).trans (hp_alloc_new (by first | (simp; done) | (simp; omega) | omega) _)); have ⟨cc, fc⟩ := cells_of_heap hgc; have hgd := (hbl.block (w.heap.size + 1 + 1) (by first | (simp; done) | (simp; omega) | omega)).trans (hp_alloc_new (by first | (simp; done) | (simp; omega) | omega) _); have ⟨cd, fd⟩ := cells_of_heap hgd; have hz1 : w.heap.size + 1 + 1 < w1.heap.size := (by have := hbl.size; simp at this; omega); have hk1 : ∀ M, Keep M w w1 := fun M => ((((Keep.refl M w).alloc _).alloc _).alloc _).trans (Keep.of_below hbl) (fun _ _ h => h))
  all_goals first
    | (exfalso; omega)
    | (refine bodyPost_ret (v := .agg #[.int .i64 0, .int .i64 num, .slice none 0 0]) (by simp [results, Try.results79, go_sem, cc]) rfl ⟨rfl, ?_⟩; (refine Keep.below (M := fun _ => False) ?_ (fun _ _ h => h)); (repeat (first | with_reducible exact Keep.refl _ _ | with_reducible exact hk1 _ | with_reducible exact hk2 | with_reducible refine Keep.drew ?_ | with_reducible refine Keep.alloc ?_ _ | with_reducible refine Keep.setCell ?_ (by first | exact Or.inl (Or.inl rfl) | exact Or.inl (Or.inr rfl) | exact Or.inl rfl | (right; simp; done) | (right; simp; omega) | (right; omega)) _)))

theorem read_ok (F : Nat → Prop) (w : World) (g i : Nat) (S : Nat → Option Qu) (nm tx : ByteArray) (kind : Int) (num most k : Nat) (q : Qu) (h : ShelfAt F w g S) (hi : i < 8) (hq : S i = some q) (hb : q.first + q.items.length ≤ 1099511627776)
    (hn : num ≤ 1099511627776) (hm : most ≤ 8) (hk : max num q.first = k) (hlt : k < q.first + q.items.length) :
    Calls Try.prog 79 #[.pointer (some ⟨g, 0, none⟩), .int .i64 i, (OpS.mk kind nm tx num most).val] w fun e w' =>
      ∃ v, e = .returned (.agg #[.int .i64 0, .int .i64 k, v]) ∧ Row (Made w w') w' 9 1 v ((q.items.drop (k - q.first)).take most).length (textsV ((q.items.drop (k - q.first)).take most)) ∧ Below w.heap.size w w' := by
  have hg := h.lt
  obtain ⟨cs, s, G, hh, hz, h0, h1, h2, h3, h4, hs, hF, hG, back⟩ := h.focus i hi
  have ⟨hc, hf⟩ := cells_of_heap hh
  rw [hq] at hs
  obtain ⟨s1, s2, s3, s4, s5, b, s6, s7, s8⟩ := hs
  have hi' : (i : Int) < 8 := by omega
  rw [← s4] at hb hlt
  rw [← s3] at hb hlt hk ⊢
  have S4 := Lib.hid s4
  have src := Src.of_row s5 (textsV_one' _)
  obtain ⟨ab, ac, eA, hac, _⟩ := s5.pos (by omega)
  clear s1 s2 s3 s4 s6 back
  obtain ⟨su, snm, sf, sA, sn, sc, sm⟩ := s
  simp only at *
  simp only [Value.slice.injEq] at eA
  obtain ⟨rfl, _, rfl⟩ := eA
  unfold OpS.val
  obtain ⟨lo, rfl⟩ : ∃ lo, k = sf + lo := ⟨k - sf, by omega⟩
  have elo : sf + lo - sf = lo := by omega
  rw [elo]
  clear elo
  by_cases hc1 : num < sf
  · obtain rfl : lo = 0 := by omega
    clear hk
    obtain ⟨l, hl⟩ : ∃ l, (q.items.drop 0).take most = l := ⟨_, rfl⟩
    rw [hl]
    have HL := Lib.hid hl
    clear hl
    by_cases hc2 : most < sn
    · go_enter Try.func79, Try.ntmps79
      go_wp2_with (go_at_call 82; refine (end_any _ _ _ _ _ _ _ _ (by omega) (by omega)).mono ?_; rintro e w1 ⟨rfl, hbl⟩; have hga := (hbl.block g (by first | (simp; done) | (simp; omega) | omega)).trans ((hp_alloc_lt (by first | (simp; done) | (simp; omega) | omega) _).trans ((hp_alloc_lt (by first | (simp; done) | (simp; omega) | omega) _).trans ((hp_alloc_lt hg _).trans hh))); have ⟨ca, fa⟩ := cells_of_heap hga; have hgb := (hbl.block w.heap.size (by first | (simp; done) | (simp; omega) | omega)).trans ((hp_alloc_lt (by first | (simp; done) | (simp; omega) | omega) _).trans ((hp_alloc_lt (by first | (simp; done) | (simp; omega) | omega) _).trans (heap_alloc_new w _))); have ⟨cb, fb⟩ := cells_of_heap hgb; have hgc := (hbl.block (w.heap.size + 1) (by first | (simp; done) | (simp; omega) | omega)).trans ((hp_alloc_lt (by first | (simp; done) | (simp; omega) | omega) _).trans (hp_alloc_new (by first | (simp; done) | (simp; omega) | omega) _)); have ⟨cc, fc⟩ := cells_of_heap hgc; have hgd := (hbl.block (w.heap.size + 1 + 1) (by first | (simp; done) | (simp; omega) | omega)).trans (hp_alloc_new (by first | (simp; done) | (simp; omega) | omega) _); have ⟨cd, fd⟩ := cells_of_heap hgd; have hz1 : w.heap.size + 1 + 1 < w1.heap.size := (by have := hbl.size; simp at this; omega); have hk1 : ∀ M, Keep M w w1 := fun M => ((((Keep.refl M w).alloc _).alloc _).alloc _).trans (Keep.of_below hbl) (fun _ _ h => h))
      have src1 := src.keepK (hk1 _)
      have hlen : l.length = most := by rw [← HL.out]; have := S4.out; simp; omega
      have src2 : Src w1 1 (.slice (some ⟨ab, 0, none⟩) (most) (sc)) l.length (textsV l) := by
        have := Src.cut (c' := sc) src1 (lo := 0) (hi := 0 + (most)) (by omega) (by omega)
        rw [hlen, ← HL.out]
        simp only [Nat.zero_add, Nat.add_sub_cancel_left] at this
        have e : List.take (most) (List.drop (0) (textsV q.items)) = textsV (List.take most (List.drop (0) q.items)) := by
          simp only [textsV, List.map_take, List.map_drop]
        rw [← e]; exact this
      refine (clone_any w1 _ l src2 (by rw [hlen]; omega)).mono ?_
      clear hlen
      rintro e w2 ⟨v', rfl, r2, hb2⟩
      obtain ⟨A', c', rfl⟩ := r2.form
      have hgf := (hb2.block (w.heap.size + 1) (by omega)).trans hgc
      have ⟨cf, ff⟩ := cells_of_heap hgf
      have hk2 := (hk1 (fun _ => False)).trans (Keep.of_below (M := fun _ => False) hb2) (fun _ _ h => h)
      have hz2 := hb2.size
      go_wp2
      refine bodyPost_ret (v := .agg #[.int .i64 0, .int .i64 ((sf + 0 : Nat) : Int), .slice A' l.length c']) (by simp [results, Try.results79, go_sem, cf]) rfl ⟨_, rfl, ?_, ?_⟩
      · refine Row.mono (G := Made w _) ⟨Keep.row (M := fun k => k = w.heap.size + 1) ?_ r2.1 (fun k hk e => by have := r2.2 k hk; rw [e] at this; have := this.1; omega), r2.2⟩ (fun b hb hl => ⟨by have := hb.1; omega, hl⟩)
        (repeat (first | with_reducible exact Keep.refl _ _ | with_reducible exact hk1 _ | with_reducible exact hk2 | with_reducible refine Keep.drew ?_ | with_reducible refine Keep.alloc ?_ _ | with_reducible refine Keep.setCell ?_ (by first | exact Or.inl (Or.inl rfl) | exact Or.inl (Or.inr rfl) | exact Or.inl rfl | (right; simp; done) | (right; simp; omega) | (right; omega)) _))
      · (refine Keep.below (M := fun _ => False) ?_ (fun _ _ h => h)); (repeat (first | with_reducible exact Keep.refl _ _ | with_reducible exact hk1 _ | with_reducible exact hk2 | with_reducible refine Keep.drew ?_ | with_reducible refine Keep.alloc ?_ _ | with_reducible refine Keep.setCell ?_ (by first | exact Or.inl (Or.inl rfl) | exact Or.inl (Or.inr rfl) | exact Or.inl rfl | (right; simp; done) | (right; simp; omega) | (right; omega)) _))
    · go_enter Try.func79, Try.ntmps79
      go_wp2_with (go_at_call 82; refine (end_any _ _ _ _ _ _ _ _ (by omega) (by omega)).mono ?_; rintro e w1 ⟨rfl, hbl⟩; have hga := (hbl.block g (by first | (simp; done) | (simp; omega) | omega)).trans ((hp_alloc_lt (by first | (simp; done) | (simp; omega) | omega) _).trans ((hp_alloc_lt (by first | (simp; done) | (simp; omega) | omega) _).trans ((hp_alloc_lt hg _).trans hh))); have ⟨ca, fa⟩ := cells_of_heap hga; have hgb := (hbl.block w.heap.size (by first | (simp; done) | (simp; omega) | omega)).trans ((hp_alloc_lt (by first | (simp; done) | (simp; omega) | omega) _).trans ((hp_alloc_lt (by first | (simp; done) | (simp; omega) | omega) _).trans (heap_alloc_new w _))); have ⟨cb, fb⟩ := cells_of_heap hgb; have hgc := (hbl.block (w.heap.size + 1) (by first | (simp; done) | (simp; omega) | omega)).trans ((hp_alloc_lt (by first | (simp; done) | (simp; omega) | omega) _).trans (hp_alloc_new (by first | (simp; done) | (simp; omega) | omega) _)); have ⟨cc, fc⟩ := cells_of_heap hgc; have hgd := (hbl.block (w.heap.size + 1 + 1) (by first | (simp; done) | (simp; omega) | omega)).trans (hp_alloc_new (by first | (simp; done) | (simp; omega) | omega) _); have ⟨cd, fd⟩ := cells_of_heap hgd; have hz1 : w.heap.size + 1 + 1 < w1.heap.size := (by have := hbl.size; simp at this; omega); have hk1 : ∀ M, Keep M w w1 := fun M => ((((Keep.refl M w).alloc _).alloc _).alloc _).trans (Keep.of_below hbl) (fun _ _ h => h))
      have src1 := src.keepK (hk1 _)
      have hlen : l.length = sn := by rw [← HL.out]; have := S4.out; simp; omega
      have src2 : Src w1 1 (.slice (some ⟨ab, 0, none⟩) (sn) (sc)) l.length (textsV l) := by
        have := Src.cut (c' := sc) src1 (lo := 0) (hi := 0 + (sn)) (by omega) (by omega)
        rw [hlen, ← HL.out]
        simp only [Nat.zero_add, Nat.add_sub_cancel_left] at this
        have e : List.take (sn) (List.drop (0) (textsV q.items)) = textsV (List.take most (List.drop (0) q.items)) := by
          simp only [textsV, List.map_take, List.map_drop]
          have := S4.out; rw [List.take_of_length_le (by simp; omega), List.take_of_length_le (by simp; omega)]
        rw [← e]; exact this
      refine (clone_any w1 _ l src2 (by rw [hlen]; omega)).mono ?_
      clear hlen
      rintro e w2 ⟨v', rfl, r2, hb2⟩
      obtain ⟨A', c', rfl⟩ := r2.form
      have hgf := (hb2.block (w.heap.size + 1) (by omega)).trans hgc
      have ⟨cf, ff⟩ := cells_of_heap hgf
      have hk2 := (hk1 (fun _ => False)).trans (Keep.of_below (M := fun _ => False) hb2) (fun _ _ h => h)
      have hz2 := hb2.size
      go_wp2
      refine bodyPost_ret (v := .agg #[.int .i64 0, .int .i64 ((sf + 0 : Nat) : Int), .slice A' l.length c']) (by simp [results, Try.results79, go_sem, cf]) rfl ⟨_, rfl, ?_, ?_⟩
      · refine Row.mono (G := Made w _) ⟨Keep.row (M := fun k => k = w.heap.size + 1) ?_ r2.1 (fun k hk e => by have := r2.2 k hk; rw [e] at this; have := this.1; omega), r2.2⟩ (fun b hb hl => ⟨by have := hb.1; omega, hl⟩)
        (repeat (first | with_reducible exact Keep.refl _ _ | with_reducible exact hk1 _ | with_reducible exact hk2 | with_reducible refine Keep.drew ?_ | with_reducible refine Keep.alloc ?_ _ | with_reducible refine Keep.setCell ?_ (by first | exact Or.inl (Or.inl rfl) | exact Or.inl (Or.inr rfl) | exact Or.inl rfl | (right; simp; done) | (right; simp; omega) | (right; omega)) _))
      · (refine Keep.below (M := fun _ => False) ?_ (fun _ _ h => h)); (repeat (first | with_reducible exact Keep.refl _ _ | with_reducible exact hk1 _ | with_reducible exact hk2 | with_reducible refine Keep.drew ?_ | with_reducible refine Keep.alloc ?_ _ | with_reducible refine Keep.setCell ?_ (by first | exact Or.inl (Or.inl rfl) | exact Or.inl (Or.inr rfl) | exact Or.inl rfl | (right; simp; done) | (right; simp; omega) | (right; omega)) _))
  · obtain rfl : num = sf + lo := by omega
    clear hk
    obtain ⟨l, hl⟩ : ∃ l, (q.items.drop lo).take most = l := ⟨_, rfl⟩
    rw [hl]
    have HL := Lib.hid hl
    clear hl
    by_cases hc2 : most < sn - lo
    · go_enter Try.func79, Try.ntmps79
      go_wp2_with (go_at_call 82; refine (end_any _ _ _ _ _ _ _ _ (by omega) (by omega)).mono ?_; rintro e w1 ⟨rfl, hbl⟩; have hga := (hbl.block g (by first | (simp; done) | (simp; omega) | omega)).trans ((hp_alloc_lt (by first | (simp; done) | (simp; omega) | omega) _).trans ((hp_alloc_lt (by first | (simp; done) | (simp; omega) | omega) _).trans ((hp_alloc_lt hg _).trans hh))); have ⟨ca, fa⟩ := cells_of_heap hga; have hgb := (hbl.block w.heap.size (by first | (simp; done) | (simp; omega) | omega)).trans ((hp_alloc_lt (by first | (simp; done) | (simp; omega) | omega) _).trans ((hp_alloc_lt (by first | (simp; done) | (simp; omega) | omega) _).trans (heap_alloc_new w _))); have ⟨cb, fb⟩ := cells_of_heap hgb; have hgc := (hbl.block (w.heap.size + 1) (by first | (simp; done) | (simp; omega) | omega)).trans ((hp_alloc_lt (by first | (simp; done) | (simp; omega) | omega) _).trans (hp_alloc_new (by first | (simp; done) | (simp; omega) | omega) _)); have ⟨cc, fc⟩ := cells_of_heap hgc; have hgd := (hbl.block (w.heap.size + 1 + 1) (by first | (simp; done) | (simp; omega) | omega)).trans (hp_alloc_new (by first | (simp; done) | (simp; omega) | omega) _); have ⟨cd, fd⟩ := cells_of_heap hgd; have hz1 : w.heap.size + 1 + 1 < w1.heap.size := (by have := hbl.size; simp at this; omega); have hk1 : ∀ M, Keep M w w1 := fun M => ((((Keep.refl M w).alloc _).alloc _).alloc _).trans (Keep.of_below hbl) (fun _ _ h => h))
      have src1 := src.keepK (hk1 _)
      have hlen : l.length = most := by rw [← HL.out]; have := S4.out; simp; omega
      have src2 : Src w1 1 (.slice (some ⟨ab, lo, none⟩) (most) (sc - lo)) l.length (textsV l) := by
        have := Src.cut (c' := sc - lo) src1 (lo := lo) (hi := lo + (most)) (by omega) (by omega)
        rw [hlen, ← HL.out]
        simp only [Nat.zero_add, Nat.add_sub_cancel_left] at this
        have e : List.take (most) (List.drop (lo) (textsV q.items)) = textsV (List.take most (List.drop (lo) q.items)) := by
          simp only [textsV, List.map_take, List.map_drop]
        rw [← e]; exact this
      refine (clone_any w1 _ l src2 (by rw [hlen]; omega)).mono ?_
      clear hlen
      rintro e w2 ⟨v', rfl, r2, hb2⟩
      obtain ⟨A', c', rfl⟩ := r2.form
      have hgf := (hb2.block (w.heap.size + 1) (by omega)).trans hgc
      have ⟨cf, ff⟩ := cells_of_heap hgf
      have hk2 := (hk1 (fun _ => False)).trans (Keep.of_below (M := fun _ => False) hb2) (fun _ _ h => h)
      have hz2 := hb2.size
      go_wp2
      refine bodyPost_ret (v := .agg #[.int .i64 0, .int .i64 ((sf + lo : Nat) : Int), .slice A' l.length c']) (by simp [results, Try.results79, go_sem, cf]) rfl ⟨_, rfl, ?_, ?_⟩
      · refine Row.mono (G := Made w _) ⟨Keep.row (M := fun k => k = w.heap.size + 1) ?_ r2.1 (fun k hk e => by have := r2.2 k hk; rw [e] at this; have := this.1; omega), r2.2⟩ (fun b hb hl => ⟨by have := hb.1; omega, hl⟩)
        (repeat (first | with_reducible exact Keep.refl _ _ | with_reducible exact hk1 _ | with_reducible exact hk2 | with_reducible refine Keep.drew ?_ | with_reducible refine Keep.alloc ?_ _ | with_reducible refine Keep.setCell ?_ (by first | exact Or.inl (Or.inl rfl) | exact Or.inl (Or.inr rfl) | exact Or.inl rfl | (right; simp; done) | (right; simp; omega) | (right; omega)) _))
      · (refine Keep.below (M := fun _ => False) ?_ (fun _ _ h => h)); (repeat (first | with_reducible exact Keep.refl _ _ | with_reducible exact hk1 _ | with_reducible exact hk2 | with_reducible refine Keep.drew ?_ | with_reducible refine Keep.alloc ?_ _ | with_reducible refine Keep.setCell ?_ (by first | exact Or.inl (Or.inl rfl) | exact Or.inl (Or.inr rfl) | exact Or.inl rfl | (right; simp; done) | (right; simp; omega) | (right; omega)) _))
    · go_enter Try.func79, Try.ntmps79
      go_wp2_with (go_at_call 82; refine (end_any _ _ _ _ _ _ _ _ (by omega) (by omega)).mono ?_; rintro e w1 ⟨rfl, hbl⟩; have hga := (hbl.block g (by first | (simp; done) | (simp; omega) | omega)).trans ((hp_alloc_lt (by first | (simp; done) | (simp; omega) | omega) _).trans ((hp_alloc_lt (by first | (simp; done) | (simp; omega) | omega) _).trans ((hp_alloc_lt hg _).trans hh))); have ⟨ca, fa⟩ := cells_of_heap hga; have hgb := (hbl.block w.heap.size (by first | (simp; done) | (simp; omega) | omega)).trans ((hp_alloc_lt (by first | (simp; done) | (simp; omega) | omega) _).trans ((hp_alloc_lt (by first | (simp; done) | (simp; omega) | omega) _).trans (heap_alloc_new w _))); have ⟨cb, fb⟩ := cells_of_heap hgb; have hgc := (hbl.block (w.heap.size + 1) (by first | (simp; done) | (simp; omega) | omega)).trans ((hp_alloc_lt (by first | (simp; done) | (simp; omega) | omega) _).trans (hp_alloc_new (by first | (simp; done) | (simp; omega) | omega) _)); have ⟨cc, fc⟩ := cells_of_heap hgc; have hgd := (hbl.block (w.heap.size + 1 + 1) (by first | (simp; done) | (simp; omega) | omega)).trans (hp_alloc_new (by first | (simp; done) | (simp; omega) | omega) _); have ⟨cd, fd⟩ := cells_of_heap hgd; have hz1 : w.heap.size + 1 + 1 < w1.heap.size := (by have := hbl.size; simp at this; omega); have hk1 : ∀ M, Keep M w w1 := fun M => ((((Keep.refl M w).alloc _).alloc _).alloc _).trans (Keep.of_below hbl) (fun _ _ h => h))
      have src1 := src.keepK (hk1 _)
      have hlen : l.length = sn - lo := by rw [← HL.out]; have := S4.out; simp; omega
      have src2 : Src w1 1 (.slice (some ⟨ab, lo, none⟩) (sn - lo) (sc - lo)) l.length (textsV l) := by
        have := Src.cut (c' := sc - lo) src1 (lo := lo) (hi := lo + (sn - lo)) (by omega) (by omega)
        rw [hlen, ← HL.out]
        simp only [Nat.zero_add, Nat.add_sub_cancel_left] at this
        have e : List.take (sn - lo) (List.drop (lo) (textsV q.items)) = textsV (List.take most (List.drop (lo) q.items)) := by
          simp only [textsV, List.map_take, List.map_drop]
          have := S4.out; rw [List.take_of_length_le (by simp; omega), List.take_of_length_le (by simp; omega)]
        rw [← e]; exact this
      refine (clone_any w1 _ l src2 (by rw [hlen]; omega)).mono ?_
      clear hlen
      rintro e w2 ⟨v', rfl, r2, hb2⟩
      obtain ⟨A', c', rfl⟩ := r2.form
      have hgf := (hb2.block (w.heap.size + 1) (by omega)).trans hgc
      have ⟨cf, ff⟩ := cells_of_heap hgf
      have hk2 := (hk1 (fun _ => False)).trans (Keep.of_below (M := fun _ => False) hb2) (fun _ _ h => h)
      have hz2 := hb2.size
      go_wp2
      refine bodyPost_ret (v := .agg #[.int .i64 0, .int .i64 ((sf + lo : Nat) : Int), .slice A' l.length c']) (by simp [results, Try.results79, go_sem, cf]) rfl ⟨_, rfl, ?_, ?_⟩
      · refine Row.mono (G := Made w _) ⟨Keep.row (M := fun k => k = w.heap.size + 1) ?_ r2.1 (fun k hk e => by have := r2.2 k hk; rw [e] at this; have := this.1; omega), r2.2⟩ (fun b hb hl => ⟨by have := hb.1; omega, hl⟩)
        (repeat (first | with_reducible exact Keep.refl _ _ | with_reducible exact hk1 _ | with_reducible exact hk2 | with_reducible refine Keep.drew ?_ | with_reducible refine Keep.alloc ?_ _ | with_reducible refine Keep.setCell ?_ (by first | exact Or.inl (Or.inl rfl) | exact Or.inl (Or.inr rfl) | exact Or.inl rfl | (right; simp; done) | (right; simp; omega) | (right; omega)) _))
      · (refine Keep.below (M := fun _ => False) ?_ (fun _ _ h => h)); (repeat (first | with_reducible exact Keep.refl _ _ | with_reducible exact hk1 _ | with_reducible exact hk2 | with_reducible refine Keep.drew ?_ | with_reducible refine Keep.alloc ?_ _ | with_reducible refine Keep.setCell ?_ (by first | exact Or.inl (Or.inl rfl) | exact Or.inl (Or.inr rfl) | exact Or.inl rfl | (right; simp; done) | (right; simp; omega) | (right; omega)) _))
end Go.Proofs.Ytfahakmnlmlgcaa
