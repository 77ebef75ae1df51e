/-
  The contract of the shelf's trim.
-/
import Derived.Test.YtfahakmnlmlgcaaShelfE
import Derived.Deep.RegionHeld3
namespace Go.Proofs.Ytfahakmnlmlgcaa
open Go.RowKit Go.Lib
set_option linter.unusedVariables false
set_option linter.unusedSimpArgs false

/-- The numbers of groups, those of a list of places raised. -/
def mx (k : Nat) (done : List Nat) (m : List (ByteArray × Nat)) : List (ByteArray × Nat) := m.mapIdx (fun i p => if i ∈ done then (p.1, max p.2 k) else p)
theorem mx_nil (k : Nat) (m : List (ByteArray × Nat)) : mx k [] m = m := by apply List.ext_getElem (by simp [mx]); intro j _ _; simp [mx]
theorem mx_length (k : Nat) (d : List Nat) (m : List (ByteArray × Nat)) : (mx k d m).length = m.length := by simp [mx]
theorem mx_get (k : Nat) (d : List Nat) (m : List (ByteArray × Nat)) (i : Nat) (hi : i < m.length) (hd : i ∉ d) : (mx k d m)[i]'(by simpa [mx_length] using hi) = m[i] := by simp [mx, hd]
theorem mx_step (k : Nat) (d : List Nat) (m : List (ByteArray × Nat)) (i : Nat) (hi : i < m.length) (hd : i ∉ d) : (mx k d m).set i (m[i].1, max m[i].2 k) = mx k (d ++ [i]) m := by
  apply List.ext_getElem (by simp [mx])
  intro j h1 h2
  simp only [List.getElem_set, mx, List.getElem_mapIdx, List.mem_append, List.mem_singleton]
  by_cases hij : i = j
  · subst hij; simp
  · rw [if_neg hij]; simp [Ne.symm hij]
theorem mx_all (k : Nat) (d : List Nat) (m : List (ByteArray × Nat)) (h : ∀ i, i < m.length → i ∈ d) : mx k d m = m.map (fun p => (p.1, max p.2 k)) := by
  apply List.ext_getElem (by simp [mx])
  intro j h1 h2
  simp only [mx, List.getElem_mapIdx, List.getElem_map]
  rw [if_pos (h j (by simpa [mx] using h1))]

theorem trim_none (F : Nat → Prop) (w : World) (g i : Nat) (S : Nat → Option Qu) (nm tx : ByteArray) (kind most : Int) (num : Nat) (q : Qu) (h : ShelfAt F w g S) (hi : i < 8) (hq : S i = some q) (hb : q.first + q.items.length ≤ 1099511627776)
    (hn : num ≤ 1099511627776) (hle : min num (q.first + q.items.length) ≤ q.first) :
    Calls Try.prog 77 #[.pointer (some ⟨g, 0, none⟩), .int .i64 i, (OpS.mk kind nm tx num most).val] w fun e w' => e = .returned (.agg #[.int .i64 0, .int .i64 0, .slice none 0 0]) ∧ Below w.heap.size w w' := by
  have hg := h.lt
  obtain ⟨cs, s, G, hh, hz, h0, h1, h2, h3, h4, hs, hF, hG, back⟩ := h.focus i hi
  have ⟨hc, hf⟩ := cells_of_heap hh
  rw [hq] at hs
  obtain ⟨s1, s2, s3, s4, s5, b, s6, s7, s8⟩ := hs
  have hi' : (i : Int) < 8 := by omega
  rw [← s4] at hb hle
  rw [← s3] at hb hle
  clear s1 s2 s3 s4 s6 back
  unfold OpS.val
  go_enter Try.func77, Try.ntmps77
  go_wp2_with fail
  go_region_held3 (fun w' => w'.cell? ⟨w.heap.size, 3, none⟩ = some (.int .i64 num) ∧ w'.cell? ⟨g, i * 5, none⟩ = some (.bool s.used) ∧ w'.cell? ⟨g, i * 5 + 1, none⟩ = some (.string s.name) ∧ w'.cell? ⟨g, i * 5 + 2, none⟩ = some (.int .i64 s.first) ∧ w'.cell? ⟨g, i * 5 + 3, none⟩ = some (.slice s.A s.n s.c) ∧ w'.cell? ⟨g, i * 5 + 4, none⟩ = some (.map s.m))
    (first | go_keep | exact ⟨cb 3, (ca _).trans h0, (ca _).trans h1, (ca _).trans h2, (ca _).trans h3, (ca _).trans h4⟩) (first | (go_at_call 82; refine (end_any _ _ _ _ _ _ _ _ (by omega) (by omega)).mono ?_; rintro e w1 ⟨rfl, hbl⟩; have hga := (hbl.block g (by first | (simp; done) | (simp; omega) | omega)).trans ((hp_alloc_lt (by first | (simp; done) | (simp; omega) | omega) _).trans ((hp_alloc_lt hg _).trans hh)); have ⟨ca, fa⟩ := cells_of_heap hga; have hgb := (hbl.block w.heap.size (by first | (simp; done) | (simp; omega) | omega)).trans ((hp_alloc_lt (by first | (simp; done) | (simp; omega) | omega) _).trans (heap_alloc_new w _)); have ⟨cb, fb⟩ := cells_of_heap hgb; have hgc := (hbl.block (w.heap.size + 1) (by first | (simp; done) | (simp; omega) | omega)).trans (hp_alloc_new (by first | (simp; done) | (simp; omega) | omega) _); have ⟨cc, fc⟩ := cells_of_heap hgc; have hz1 : w.heap.size + 1 < w1.heap.size := (by have := hbl.size; simp at this; omega); have hk1 : ∀ M, Keep M w w1 := fun M => (((Keep.refl M w).alloc _).alloc _).drew.trans (Keep.of_below hbl) (fun _ _ h => h)))
  all_goals go_wp2
  all_goals first
    | (exfalso; omega)
    | (refine bodyPost_ret (v := .agg #[.int .i64 0, .int .i64 0, .slice none 0 0]) (by simp [results, Try.results77, go_sem, cc]) rfl ⟨rfl, ?_⟩; (refine Keep.below (M := fun _ => False) ?_ (fun _ _ h => h)); (repeat (first | with_reducible exact Keep.refl _ _ | with_reducible exact hk1 _ | with_reducible exact hk2 | with_reducible refine Keep.drew ?_ | with_reducible refine Keep.alloc ?_ _ | with_reducible refine Keep.setCell ?_ (by first | exact Or.inl (Or.inl rfl) | exact Or.inl (Or.inr rfl) | exact Or.inl rfl | (right; simp; done) | (right; simp; omega) | (right; omega)) _)))

theorem clone_nil (w : World) (A : Option Addr) (n c : Nat) (l : List ByteArray) (hn : n = 0) (hl : l = []) : Calls Try.prog 65 #[.slice A n c] w fun e w' => ∃ v, e = .returned v ∧ Row (Made w w') w' 9 1 v l.length (textsV l) ∧ Below w.heap.size w w' := by
  subst hn; subst hl
  exact clone_any w (.slice A 0 c) [] ⟨rfl, by simp [textsV], A, c, rfl, .inl rfl⟩ (by simp)

theorem Src.cut2 {w : World} {b n c c' d : Nat} {L l : List ByteArray} (h : Src w 1 (.slice (some ⟨b, 0, none⟩) n c) n (textsV L)) (hd : d ≤ n) (hL : n = L.length) (hl : L.drop d = l) :
    Src w 1 (.slice (some ⟨b, d, none⟩) (n - d) c') l.length (textsV l) := by
  have := Src.cut (c' := c') h (lo := d) (hi := n) hd (Nat.le_refl _)
  have e : List.take (n - d) (List.drop d (textsV L)) = textsV l := by
    simp only [textsV, ← List.map_drop, hl]
    rw [List.take_of_length_le (by rw [← hl]; simp; omega)]
  rw [Nat.zero_add, e] at this
  have e2 : n - d = l.length := by rw [← hl]; simp; omega
  rw [← e2]; exact this

set_option maxRecDepth 100000 in
set_option maxHeartbeats 1000000 in
theorem trim_ok (F : Nat → Prop) (w : World) (g i : Nat) (S : Nat → Option Qu) (nm tx : ByteArray) (kind most : Int) (num d : Nat) (q : Qu) (h : ShelfAt F w g S) (hi : i < 8) (hq : S i = some q) (hb : q.first + q.items.length ≤ 1099511627776)
    (hn : num ≤ 1099511627776) (hk : min num (q.first + q.items.length) = q.first + d) (hd : 0 < d) :
    Calls Try.prog 77 #[.pointer (some ⟨g, 0, none⟩), .int .i64 i, (OpS.mk kind nm tx num most).val] w fun e w' => e = .returned (.agg #[.int .i64 0, .int .i64 d, .slice none 0 0]) ∧
      ShelfAt (Grow F w w') w' g (put S i (some ⟨q.name, q.first + d, q.items.drop d, q.groups.map (fun p => (p.1, max p.2 (q.first + d)))⟩)) ∧ Keep F w w' := by
  have hg := h.lt
  obtain ⟨cs, s, G, hh, hz, h0, h1, h2, h3, h4, hs, hF, hG, back⟩ := h.focus i hi
  have ⟨hc, hf⟩ := cells_of_heap hh
  rw [hq] at hs
  obtain ⟨s1, s2, s3, s4, s5, b, s6, s7, s8⟩ := hs
  have hi' : (i : Int) < 8 := by omega
  rw [← s4] at hb hk
  rw [← s3] at hb hk ⊢
  have hdn : d ≤ s.n := by omega
  obtain ⟨ab, ac, eA, hac, _⟩ := s5.pos (by omega)
  have src := Src.of_row s5 (textsV_one' _)
  have S1 := Lib.hid s1
  have S2 := Lib.hid s2
  have S4 := Lib.hid s4
  have S6 := Lib.hid s6
  rw [s6] at h4
  clear s1 s2 s3 s4 s6
  obtain ⟨su, snm, sf, sA, sn, sc, sm⟩ := s
  simp only at *
  simp only [Value.slice.injEq] at eA
  obtain ⟨rfl, _, rfl⟩ := eA
  obtain ⟨l, hl⟩ : ∃ l, q.items.drop d = l := ⟨_, rfl⟩
  rw [hl]
  have HL := Lib.hid hl
  clear hl
  unfold OpS.val
  have hl32 : l.length ≤ sn - d := by rw [← HL.out]; have := S4.out; simp; omega
  rcases (by omega : (num = sf + d ∧ d < sn) ∨ (sn = d ∧ num = sf + sn) ∨ (sn = d ∧ sf + sn < num)) with hc | hc | hc
  · obtain ⟨rfl, hc1⟩ := hc
    clear hk
    have src3 := src.cut2 (c' := sc - d) hdn S4.out HL.out
    go_enter Try.func77, Try.ntmps77
    go_wp2_with fail
    go_region_held3 (fun w' => w'.cell? ⟨w.heap.size, 3, none⟩ = some (.int .i64 (sf + d)) ∧ w'.cell? ⟨g, i * 5, none⟩ = some (.bool su) ∧ w'.cell? ⟨g, i * 5 + 1, none⟩ = some (.string snm) ∧ w'.cell? ⟨g, i * 5 + 2, none⟩ = some (.int .i64 sf) ∧ w'.cell? ⟨g, i * 5 + 3, none⟩ = some (.slice (some ⟨ab, 0, none⟩) sn sc) ∧ w'.cell? ⟨g, i * 5 + 4, none⟩ = some (.map (some b)))
      (first | go_keep | exact ⟨cb 3, (ca _).trans h0, (ca _).trans h1, (ca _).trans h2, (ca _).trans h3, (ca _).trans h4⟩) (first | (go_at_call 82; refine (end_any _ _ _ _ _ _ _ _ (by omega) (by omega)).mono ?_; rintro e w1 ⟨rfl, hbl⟩; have hga := (hbl.block g (by first | (simp; done) | (simp; omega) | omega)).trans ((hp_alloc_lt (by first | (simp; done) | (simp; omega) | omega) _).trans ((hp_alloc_lt hg _).trans hh)); have ⟨ca, fa⟩ := cells_of_heap hga; have hgb := (hbl.block w.heap.size (by first | (simp; done) | (simp; omega) | omega)).trans ((hp_alloc_lt (by first | (simp; done) | (simp; omega) | omega) _).trans (heap_alloc_new w _)); have ⟨cb, fb⟩ := cells_of_heap hgb; have hgc := (hbl.block (w.heap.size + 1) (by first | (simp; done) | (simp; omega) | omega)).trans (hp_alloc_new (by first | (simp; done) | (simp; omega) | omega) _); have ⟨cc, fc⟩ := cells_of_heap hgc; have hz1 : w.heap.size + 1 < w1.heap.size := (by have := hbl.size; simp at this; omega); have hk1 : ∀ M, Keep M w w1 := fun M => (((Keep.refl M w).alloc _).alloc _).drew.trans (Keep.of_below hbl) (fun _ _ h => h)))
    go_wp2_with fail
    all_goals refine (clone_any w1 _ l (src3.keepK (hk1 _)) (by omega)).mono ?_
    all_goals
      rintro e w2 ⟨v', rfl, r2, hb2⟩
      obtain ⟨A', c', rfl⟩ := r2.form
      have hz2 := hb2.size
      have hgd := (hb2.block g (by omega)).trans hga
      have hgf := (hb2.block (w.heap.size + 1) (by omega)).trans hgc
      have ⟨cd, fd⟩ := cells_of_heap hgd
      have ⟨cf, ff⟩ := cells_of_heap hgf
      have cd4 := (cd _).trans h4
      have hbg : b ≠ g := (hG b s7).2
      have hbl' := s8.lt
      have hk2 : Keep (fun k => k = g ∨ G k) w w2 := (hk1 _).trans (Keep.of_below (M := fun _ => False) hb2) (fun _ _ h => h.elim)
      have sm2 : ∀ u v, MapAt kS vI ((w2.setCell ⟨g, i * 5 + 3, none⟩ u).setCell ⟨g, i * 5 + 2, none⟩ v) b q.groups := fun u v => s8.same (by
        rw [hp_set_other hbg, hp_set_other hbg, hb2.block b (by omega)]
        exact (hk1 (fun _ => False)).block b hbl' (fun h => h))
      go_wp2_with (at_range; refine wpList_mrange (by rfl) _ rfl Try.underlying84 (sm2 _ _) rfl ?_; intro ob hit)
      have gW := heap_setCell (heap_setCell hgd (o := i * 5 + 3) (.slice A' l.length c')) (o := i * 5 + 2) (.int .i64 ((sf : Int) + (d : Int)))
      have gR : ((w2.setCell ⟨g, i * 5 + 3, none⟩ (.slice A' l.length c')).setCell ⟨g, i * 5 + 2, none⟩ (.int .i64 ((sf : Int) + (d : Int)))).heap[w.heap.size + 1]? = some (.cells #[.int .i64 0, .int .i64 0, .slice none 0 0] 28 (0, 0)) := by
        rw [hp_set_other (by omega), hp_set_other (by omega)]; exact hgf
      have kW : Keep (fun k => k = g ∨ G k) w ((w2.setCell ⟨g, i * 5 + 3, none⟩ (.slice A' l.length c')).setCell ⟨g, i * 5 + 2, none⟩ (.int .i64 ((sf : Int) + (d : Int)))) :=
        (hk2.setCell (a := ⟨g, i * 5 + 3, none⟩) (.inl (.inl rfl)) _).setCell (a := ⟨g, i * 5 + 2, none⟩) (.inl (.inl rfl)) _
      have rW : Row (Made w1 w2) ((w2.setCell ⟨g, i * 5 + 3, none⟩ (.slice A' l.length c')).setCell ⟨g, i * 5 + 2, none⟩ (.int .i64 ((sf : Int) + (d : Int)))) 9 1 (.slice A' l.length c') l.length (textsV l) :=
        (r2.far (a := ⟨g, i * 5 + 3, none⟩) (by rintro ⟨h9, _⟩; simp at h9; omega) _).far (a := ⟨g, i * 5 + 2, none⟩) (by rintro ⟨h9, _⟩; simp at h9; omega) _
      have zW : w2.heap.size ≤ ((w2.setCell ⟨g, i * 5 + 3, none⟩ (.slice A' l.length c')).setCell ⟨g, i * 5 + 2, none⟩ (.int .i64 ((sf : Int) + (d : Int)))).heap.size := by simp [hp_size_set]
      generalize ((w2.setCell ⟨g, i * 5 + 3, none⟩ (.slice A' l.length c')).setCell ⟨g, i * 5 + 2, none⟩ (.int .i64 ((sf : Int) + (d : Int)))) = w3 at hit gW gR kW rW zW ⊢
      clear sm2
      have gW := (hp_alloc_lt (by omega) ob).trans gW
      have gR := (hp_alloc_lt (by omega) ob).trans gR
      have kW := kW.alloc ob
      have rW := rW.alloc ob
      have zI : w2.heap.size ≤ w3.heap.size := zW
      obtain ⟨it, hit0⟩ : ∃ it, w3.heap.size = it := ⟨_, rfl⟩
      have zW : it < (w3.alloc ob).heap.size := by simp; omega
      rw [hit0] at hit zI ⊢
      generalize w3.alloc ob = w4 at hit gW gR kW rW zW ⊢
      have hbl4 := hit.map.lt
      have hitb := hit.ne
      clear hit0
      have hgb4 : g ≠ it := by omega
      have hrb4 : w.heap.size + 1 ≠ b := by omega
      have hri4 : w.heap.size + 1 ≠ it := by omega
      go_frame
      go_loopw [11] (fun _ wr => ∃ done, IterAt kS vI wr it b (mx (sf + d) done q.groups) done ∧ Keep (fun x => x = b ∨ x = it) w4 wr) (fun _ wr => q.groups.length - visited wr it)
      case atStart => exact ⟨[], by rw [mx_nil]; exact hit, Keep.refl _ _⟩
      case round =>
        obtain ⟨done, hI, hk⟩ := hrel
        have hle := hI.done_le
        have hvis := hI.visited
        have gg := hk.heap gW (by omega)
        have gr := hk.heap gR (by omega)
        have ⟨cg, fg⟩ := cells_of_heap gg
        have ⟨cr, fr⟩ := cells_of_heap gr
        have cg4 := (cg (i * 5 + 4)).trans (show _ = some (.map (some b)) by rw [set_get _ _ _ _ (by simp; omega), if_neg (by omega), set_get _ _ _ _ (by omega), if_neg (by omega)]; exact h4)
        go_wp2_with (at_next; refine wpList_mnext (by rfl) _ rfl hI rfl ?_ ?_)
        · intro hall
          rw [mx_all _ _ _ (by simpa [mx_length] using hall)] at hI
          go_wp2
          have hkk : Keep (fun k => k = g ∨ G k) w wr := kW.trans hk (fun k hk2 h => h.elim (fun e => .inr (e ▸ s7)) (fun e => by omega))
          have h4' := h4
          rw [← S6.out] at h4'
          obtain ⟨y1, y2, y3⟩ := set1_spec cs i 3 (.slice A' l.length c') ⟨su, snm, sf, some ⟨ab, 0, none⟩, sn, sc, sm⟩ ⟨su, snm, sf, A', l.length, c', sm⟩ hz hi (by omega) h0 h1 h2 h3 h4' rfl (sc3 ⟨su, snm, sf, some ⟨ab, 0, none⟩, sn, sc, sm⟩ A' l.length c')
          obtain ⟨z1, z2, z3⟩ := set1_spec _ i 2 (.int .i64 ((sf : Int) + (d : Int))) ⟨su, snm, sf, A', l.length, c', sm⟩ ⟨su, snm, sf + d, A', l.length, c', sm⟩ y1 hi (by omega) (y2 0 (by omega)) (y2 1 (by omega)) (y2 2 (by omega)) (y2 3 (by omega)) (y2 4 (by omega))
            (by simp [SC.get]) (by intro j hj hne; have hj' : j = 0 ∨ j = 1 ∨ j = 3 ∨ j = 4 := by omega
                                   rcases hj' with rfl | rfl | rfl | rfl <;> rfl)
          have hgr1 : g ≠ w.heap.size + 1 := by omega
          have hszr := hkk.size
          have hszk := hk.size
          refine bodyPost_ret (v := .agg #[.int .i64 0, .int .i64 ((sf : Int) + (d : Int) - (sf : Int)), .slice none 0 0]) (by simp [results, Try.results77, go_sem, cr]) rfl ⟨by rw [show (sf : Int) + (d : Int) - (sf : Int) = (d : Int) by omega], ?_, ?_⟩
          · refine ShelfAt.mono (F := fun k => F k ∨ Grow G w _ k) (back _ _ ⟨su, snm, sf + d, A', l.length, c', sm⟩ (some ⟨q.name, sf + d, l, q.groups.map (fun p => (p.1, max p.2 (sf + d)))⟩) (Grow G w _) ?_ z1 z2 (fun k hk => (z3 k hk).trans (y3 k hk)) ?_ ⟨S1.out, S2.out, rfl, rfl, ?_, b, S6.out, .inl s7, ?_⟩ (fun k hk => hk)) ?_
            · simp only [hp_set_other hgr1]
              exact gg
            · (repeat (first | with_reducible exact Keep.refl _ _ | with_reducible exact hk1 _ | with_reducible exact hk2 | with_reducible refine Keep.drew ?_ | with_reducible refine Keep.alloc ?_ _ | with_reducible refine Keep.setCell ?_ (by first | exact Or.inl (Or.inl rfl) | exact Or.inl (Or.inr rfl) | exact Or.inl rfl | (right; simp; done) | (right; simp; omega) | (right; omega)) _))
              exact hkk
            · have rr := rW.keep hk (by rintro k ⟨h9, h8⟩; omega)
              have rr2 := ((rr.far (a := ⟨w.heap.size + 1, 0, none⟩) (by rintro ⟨h9, _⟩; simp at h9; omega) (.int .i64 0)).far (a := ⟨w.heap.size + 1, 1, none⟩) (by rintro ⟨h9, _⟩; simp at h9; omega) (.int .i64 ((sf : Int) + (d : Int) - (sf : Int)))).far (a := ⟨w.heap.size + 1, 2, none⟩) (by rintro ⟨h9, _⟩; simp at h9; omega) (.slice none 0 0)
              exact rr2.mono (fun k hk h => .inr ⟨by have := hk.1; omega, h⟩)
            · refine hI.map.same ?_
              simp only [hp_set_other (show b ≠ w.heap.size + 1 by omega)]
            · intro k hk
              rcases hk with h | h | h
              · exact .inl h
              · exact .inl (hG k h).1
              · exact .inr h
          · refine Keep.mono (M := fun k => k = g ∨ G k) ?_ (fun k _ hk => hk.elim (fun e => e ▸ hF) (fun e => (hG k e).1))
            (repeat (first | with_reducible exact Keep.refl _ _ | with_reducible exact hk1 _ | with_reducible exact hk2 | with_reducible refine Keep.drew ?_ | with_reducible refine Keep.alloc ?_ _ | with_reducible refine Keep.setCell ?_ (by first | exact Or.inl (Or.inl rfl) | exact Or.inl (Or.inr rfl) | exact Or.inl rfl | (right; simp; done) | (right; simp; omega) | (right; omega)) _))
            exact hkk
        · intro i2 hi2 hni w5 hI5 hk5 hz5 hent
          have hi3 : i2 < q.groups.length := by simpa [mx_length] using hi2
          rw [mx_get _ _ _ _ hi3 hni] at hent ⊢
          have hstep := mx_step (sf + d) done q.groups i2 hi3 hni
          obtain ⟨⟨p1, p2⟩, hp⟩ : ∃ p, q.groups[i2] = p := ⟨_, rfl⟩
          have hkey : (mx (sf + d) done q.groups)[i2].1 = p1 := by rw [mx_get _ _ _ _ hi3 hni, hp]
          rw [hp] at hent hstep ⊢
          have gg5 := hk5.heap gg (by omega)
          have gr5 := hk5.heap gr (by omega)
          have ⟨ch, fh⟩ := cells_of_heap gg5
          have ch4 := (ch (i * 5 + 4)).trans ((cg _).symm.trans cg4)
          by_cases hpk : p2 < sf + d
          · rw [Nat.max_eq_right (by omega)] at hstep
            go_wp2_with (at_mapUpdate; refine wpList_istore (by rfl) _ _ _ rfl (strKey Try.underlying9) Try.underlying84 hI5 hi2 p1 hkey rfl rfl (sf + d) (by simp [vI, Act.eval, Act.put]) ?_; intro w6 hI6 hk6 hz6)
            refine ⟨⟨⟨done ++ [i2], by rw [← hstep]; exact hI6⟩, (hk.trans hk5 (fun k _ h => .inr h)).trans hk6 (fun k _ h => .inl h)⟩, ?_⟩
            have hv6 := hI6.visited
            have hl6 := hI6.done_le
            rw [hv6]
            simp [mx_length] at hl6 ⊢
            omega
          · rw [Nat.max_eq_left (by omega)] at hstep
            go_wp2_with (at_mapUpdate; refine wpList_istore (by rfl) _ _ _ rfl (strKey Try.underlying9) Try.underlying84 hI5 hi2 p1 hkey rfl rfl p2 (by simp [vI, Act.eval, Act.put]) ?_; intro w6 hI6 hk6 hz6)
            refine ⟨⟨⟨done ++ [i2], by rw [← hstep]; exact hI6⟩, (hk.trans hk5 (fun k _ h => .inr h)).trans hk6 (fun k _ h => .inl h)⟩, ?_⟩
            have hv6 := hI6.visited
            have hl6 := hI6.done_le
            rw [hv6]
            simp [mx_length] at hl6 ⊢
            omega
  · obtain ⟨rfl, rfl⟩ := hc
    clear hk
    have HL0 : Hid (l = []) := Lib.hid (by rw [← HL.out]; have := S4.out; exact List.drop_eq_nil_of_le (by omega))
    go_enter Try.func77, Try.ntmps77
    go_wp2_with fail
    go_region_held3 (fun w' => w'.cell? ⟨w.heap.size, 3, none⟩ = some (.int .i64 (sf + sn)) ∧ w'.cell? ⟨g, i * 5, none⟩ = some (.bool su) ∧ w'.cell? ⟨g, i * 5 + 1, none⟩ = some (.string snm) ∧ w'.cell? ⟨g, i * 5 + 2, none⟩ = some (.int .i64 sf) ∧ w'.cell? ⟨g, i * 5 + 3, none⟩ = some (.slice (some ⟨ab, 0, none⟩) sn sc) ∧ w'.cell? ⟨g, i * 5 + 4, none⟩ = some (.map (some b)))
      (first | go_keep | exact ⟨cb 3, (ca _).trans h0, (ca _).trans h1, (ca _).trans h2, (ca _).trans h3, (ca _).trans h4⟩) (first | (go_at_call 82; refine (end_any _ _ _ _ _ _ _ _ (by omega) (by omega)).mono ?_; rintro e w1 ⟨rfl, hbl⟩; have hga := (hbl.block g (by first | (simp; done) | (simp; omega) | omega)).trans ((hp_alloc_lt (by first | (simp; done) | (simp; omega) | omega) _).trans ((hp_alloc_lt hg _).trans hh)); have ⟨ca, fa⟩ := cells_of_heap hga; have hgb := (hbl.block w.heap.size (by first | (simp; done) | (simp; omega) | omega)).trans ((hp_alloc_lt (by first | (simp; done) | (simp; omega) | omega) _).trans (heap_alloc_new w _)); have ⟨cb, fb⟩ := cells_of_heap hgb; have hgc := (hbl.block (w.heap.size + 1) (by first | (simp; done) | (simp; omega) | omega)).trans (hp_alloc_new (by first | (simp; done) | (simp; omega) | omega) _); have ⟨cc, fc⟩ := cells_of_heap hgc; have hz1 : w.heap.size + 1 < w1.heap.size := (by have := hbl.size; simp at this; omega); have hk1 : ∀ M, Keep M w w1 := fun M => (((Keep.refl M w).alloc _).alloc _).drew.trans (Keep.of_below hbl) (fun _ _ h => h)))
    go_wp2_with fail
    all_goals refine (clone_nil w1 _ _ _ l (by omega) HL0.out).mono ?_
    all_goals
      rintro e w2 ⟨v', rfl, r2, hb2⟩
      obtain ⟨A', c', rfl⟩ := r2.form
      have hz2 := hb2.size
      have hgd := (hb2.block g (by omega)).trans hga
      have hgf := (hb2.block (w.heap.size + 1) (by omega)).trans hgc
      have ⟨cd, fd⟩ := cells_of_heap hgd
      have ⟨cf, ff⟩ := cells_of_heap hgf
      have cd4 := (cd _).trans h4
      have hbg : b ≠ g := (hG b s7).2
      have hbl' := s8.lt
      have hk2 : Keep (fun k => k = g ∨ G k) w w2 := (hk1 _).trans (Keep.of_below (M := fun _ => False) hb2) (fun _ _ h => h.elim)
      have sm2 : ∀ u v, MapAt kS vI ((w2.setCell ⟨g, i * 5 + 3, none⟩ u).setCell ⟨g, i * 5 + 2, none⟩ v) b q.groups := fun u v => s8.same (by
        rw [hp_set_other hbg, hp_set_other hbg, hb2.block b (by omega)]
        exact (hk1 (fun _ => False)).block b hbl' (fun h => h))
      go_wp2_with (at_range; refine wpList_mrange (by rfl) _ rfl Try.underlying84 (sm2 _ _) rfl ?_; intro ob hit)
      have gW := heap_setCell (heap_setCell hgd (o := i * 5 + 3) (.slice A' l.length c')) (o := i * 5 + 2) (.int .i64 ((sf : Int) + (sn : Int)))
      have gR : ((w2.setCell ⟨g, i * 5 + 3, none⟩ (.slice A' l.length c')).setCell ⟨g, i * 5 + 2, none⟩ (.int .i64 ((sf : Int) + (sn : Int)))).heap[w.heap.size + 1]? = some (.cells #[.int .i64 0, .int .i64 0, .slice none 0 0] 28 (0, 0)) := by
        rw [hp_set_other (by omega), hp_set_other (by omega)]; exact hgf
      have kW : Keep (fun k => k = g ∨ G k) w ((w2.setCell ⟨g, i * 5 + 3, none⟩ (.slice A' l.length c')).setCell ⟨g, i * 5 + 2, none⟩ (.int .i64 ((sf : Int) + (sn : Int)))) :=
        (hk2.setCell (a := ⟨g, i * 5 + 3, none⟩) (.inl (.inl rfl)) _).setCell (a := ⟨g, i * 5 + 2, none⟩) (.inl (.inl rfl)) _
      have rW : Row (Made w1 w2) ((w2.setCell ⟨g, i * 5 + 3, none⟩ (.slice A' l.length c')).setCell ⟨g, i * 5 + 2, none⟩ (.int .i64 ((sf : Int) + (sn : Int)))) 9 1 (.slice A' l.length c') l.length (textsV l) :=
        (r2.far (a := ⟨g, i * 5 + 3, none⟩) (by rintro ⟨h9, _⟩; simp at h9; omega) _).far (a := ⟨g, i * 5 + 2, none⟩) (by rintro ⟨h9, _⟩; simp at h9; omega) _
      have zW : w2.heap.size ≤ ((w2.setCell ⟨g, i * 5 + 3, none⟩ (.slice A' l.length c')).setCell ⟨g, i * 5 + 2, none⟩ (.int .i64 ((sf : Int) + (sn : Int)))).heap.size := by simp [hp_size_set]
      generalize ((w2.setCell ⟨g, i * 5 + 3, none⟩ (.slice A' l.length c')).setCell ⟨g, i * 5 + 2, none⟩ (.int .i64 ((sf : Int) + (sn : Int)))) = w3 at hit gW gR kW rW zW ⊢
      clear sm2
      have gW := (hp_alloc_lt (by omega) ob).trans gW
      have gR := (hp_alloc_lt (by omega) ob).trans gR
      have kW := kW.alloc ob
      have rW := rW.alloc ob
      have zI : w2.heap.size ≤ w3.heap.size := zW
      obtain ⟨it, hit0⟩ : ∃ it, w3.heap.size = it := ⟨_, rfl⟩
      have zW : it < (w3.alloc ob).heap.size := by simp; omega
      rw [hit0] at hit zI ⊢
      generalize w3.alloc ob = w4 at hit gW gR kW rW zW ⊢
      have hbl4 := hit.map.lt
      have hitb := hit.ne
      clear hit0
      have hgb4 : g ≠ it := by omega
      have hrb4 : w.heap.size + 1 ≠ b := by omega
      have hri4 : w.heap.size + 1 ≠ it := by omega
      go_frame
      go_loopw [11] (fun _ wr => ∃ done, IterAt kS vI wr it b (mx (sf + sn) done q.groups) done ∧ Keep (fun x => x = b ∨ x = it) w4 wr) (fun _ wr => q.groups.length - visited wr it)
      case atStart => exact ⟨[], by rw [mx_nil]; exact hit, Keep.refl _ _⟩
      case round =>
        obtain ⟨done, hI, hk⟩ := hrel
        have hle := hI.done_le
        have hvis := hI.visited
        have gg := hk.heap gW (by omega)
        have gr := hk.heap gR (by omega)
        have ⟨cg, fg⟩ := cells_of_heap gg
        have ⟨cr, fr⟩ := cells_of_heap gr
        have cg4 := (cg (i * 5 + 4)).trans (show _ = some (.map (some b)) by rw [set_get _ _ _ _ (by simp; omega), if_neg (by omega), set_get _ _ _ _ (by omega), if_neg (by omega)]; exact h4)
        go_wp2_with (at_next; refine wpList_mnext (by rfl) _ rfl hI rfl ?_ ?_)
        · intro hall
          rw [mx_all _ _ _ (by simpa [mx_length] using hall)] at hI
          go_wp2
          have hkk : Keep (fun k => k = g ∨ G k) w wr := kW.trans hk (fun k hk2 h => h.elim (fun e => .inr (e ▸ s7)) (fun e => by omega))
          have h4' := h4
          rw [← S6.out] at h4'
          obtain ⟨y1, y2, y3⟩ := set1_spec cs i 3 (.slice A' l.length c') ⟨su, snm, sf, some ⟨ab, 0, none⟩, sn, sc, sm⟩ ⟨su, snm, sf, A', l.length, c', sm⟩ hz hi (by omega) h0 h1 h2 h3 h4' rfl (sc3 ⟨su, snm, sf, some ⟨ab, 0, none⟩, sn, sc, sm⟩ A' l.length c')
          obtain ⟨z1, z2, z3⟩ := set1_spec _ i 2 (.int .i64 ((sf : Int) + (sn : Int))) ⟨su, snm, sf, A', l.length, c', sm⟩ ⟨su, snm, sf + sn, A', l.length, c', sm⟩ y1 hi (by omega) (y2 0 (by omega)) (y2 1 (by omega)) (y2 2 (by omega)) (y2 3 (by omega)) (y2 4 (by omega))
            (by simp [SC.get]) (by intro j hj hne; have hj' : j = 0 ∨ j = 1 ∨ j = 3 ∨ j = 4 := by omega
                                   rcases hj' with rfl | rfl | rfl | rfl <;> rfl)
          have hgr1 : g ≠ w.heap.size + 1 := by omega
          have hszr := hkk.size
          have hszk := hk.size
          refine bodyPost_ret (v := .agg #[.int .i64 0, .int .i64 ((sf : Int) + (sn : Int) - (sf : Int)), .slice none 0 0]) (by simp [results, Try.results77, go_sem, cr]) rfl ⟨by rw [show (sf : Int) + (sn : Int) - (sf : Int) = (sn : Int) by omega], ?_, ?_⟩
          · refine ShelfAt.mono (F := fun k => F k ∨ Grow G w _ k) (back _ _ ⟨su, snm, sf + sn, A', l.length, c', sm⟩ (some ⟨q.name, sf + sn, l, q.groups.map (fun p => (p.1, max p.2 (sf + sn)))⟩) (Grow G w _) ?_ z1 z2 (fun k hk => (z3 k hk).trans (y3 k hk)) ?_ ⟨S1.out, S2.out, rfl, rfl, ?_, b, S6.out, .inl s7, ?_⟩ (fun k hk => hk)) ?_
            · simp only [hp_set_other hgr1]
              exact gg
            · (repeat (first | with_reducible exact Keep.refl _ _ | with_reducible exact hk1 _ | with_reducible exact hk2 | with_reducible refine Keep.drew ?_ | with_reducible refine Keep.alloc ?_ _ | with_reducible refine Keep.setCell ?_ (by first | exact Or.inl (Or.inl rfl) | exact Or.inl (Or.inr rfl) | exact Or.inl rfl | (right; simp; done) | (right; simp; omega) | (right; omega)) _))
              exact hkk
            · have rr := rW.keep hk (by rintro k ⟨h9, h8⟩; omega)
              have rr2 := ((rr.far (a := ⟨w.heap.size + 1, 0, none⟩) (by rintro ⟨h9, _⟩; simp at h9; omega) (.int .i64 0)).far (a := ⟨w.heap.size + 1, 1, none⟩) (by rintro ⟨h9, _⟩; simp at h9; omega) (.int .i64 ((sf : Int) + (sn : Int) - (sf : Int)))).far (a := ⟨w.heap.size + 1, 2, none⟩) (by rintro ⟨h9, _⟩; simp at h9; omega) (.slice none 0 0)
              exact rr2.mono (fun k hk h => .inr ⟨by have := hk.1; omega, h⟩)
            · refine hI.map.same ?_
              simp only [hp_set_other (show b ≠ w.heap.size + 1 by omega)]
            · intro k hk
              rcases hk with h | h | h
              · exact .inl h
              · exact .inl (hG k h).1
              · exact .inr h
          · refine Keep.mono (M := fun k => k = g ∨ G k) ?_ (fun k _ hk => hk.elim (fun e => e ▸ hF) (fun e => (hG k e).1))
            (repeat (first | with_reducible exact Keep.refl _ _ | with_reducible exact hk1 _ | with_reducible exact hk2 | with_reducible refine Keep.drew ?_ | with_reducible refine Keep.alloc ?_ _ | with_reducible refine Keep.setCell ?_ (by first | exact Or.inl (Or.inl rfl) | exact Or.inl (Or.inr rfl) | exact Or.inl rfl | (right; simp; done) | (right; simp; omega) | (right; omega)) _))
            exact hkk
        · intro i2 hi2 hni w5 hI5 hk5 hz5 hent
          have hi3 : i2 < q.groups.length := by simpa [mx_length] using hi2
          rw [mx_get _ _ _ _ hi3 hni] at hent ⊢
          have hstep := mx_step (sf + sn) done q.groups i2 hi3 hni
          obtain ⟨⟨p1, p2⟩, hp⟩ : ∃ p, q.groups[i2] = p := ⟨_, rfl⟩
          have hkey : (mx (sf + sn) done q.groups)[i2].1 = p1 := by rw [mx_get _ _ _ _ hi3 hni, hp]
          rw [hp] at hent hstep ⊢
          have gg5 := hk5.heap gg (by omega)
          have gr5 := hk5.heap gr (by omega)
          have ⟨ch, fh⟩ := cells_of_heap gg5
          have ch4 := (ch (i * 5 + 4)).trans ((cg _).symm.trans cg4)
          by_cases hpk : p2 < sf + sn
          · rw [Nat.max_eq_right (by omega)] at hstep
            go_wp2_with (at_mapUpdate; refine wpList_istore (by rfl) _ _ _ rfl (strKey Try.underlying9) Try.underlying84 hI5 hi2 p1 hkey rfl rfl (sf + sn) (by simp [vI, Act.eval, Act.put]) ?_; intro w6 hI6 hk6 hz6)
            refine ⟨⟨⟨done ++ [i2], by rw [← hstep]; exact hI6⟩, (hk.trans hk5 (fun k _ h => .inr h)).trans hk6 (fun k _ h => .inl h)⟩, ?_⟩
            have hv6 := hI6.visited
            have hl6 := hI6.done_le
            rw [hv6]
            simp [mx_length] at hl6 ⊢
            omega
          · rw [Nat.max_eq_left (by omega)] at hstep
            go_wp2_with (at_mapUpdate; refine wpList_istore (by rfl) _ _ _ rfl (strKey Try.underlying9) Try.underlying84 hI5 hi2 p1 hkey rfl rfl p2 (by simp [vI, Act.eval, Act.put]) ?_; intro w6 hI6 hk6 hz6)
            refine ⟨⟨⟨done ++ [i2], by rw [← hstep]; exact hI6⟩, (hk.trans hk5 (fun k _ h => .inr h)).trans hk6 (fun k _ h => .inl h)⟩, ?_⟩
            have hv6 := hI6.visited
            have hl6 := hI6.done_le
            rw [hv6]
            simp [mx_length] at hl6 ⊢
            omega
  · obtain ⟨rfl, hc1⟩ := hc
    clear hk
    have HL0 : Hid (l = []) := Lib.hid (by rw [← HL.out]; have := S4.out; exact List.drop_eq_nil_of_le (by omega))
    go_enter Try.func77, Try.ntmps77
    go_wp2_with fail
    go_region_held3 (fun w' => w'.cell? ⟨w.heap.size, 3, none⟩ = some (.int .i64 num) ∧ w'.cell? ⟨g, i * 5, none⟩ = some (.bool su) ∧ w'.cell? ⟨g, i * 5 + 1, none⟩ = some (.string snm) ∧ w'.cell? ⟨g, i * 5 + 2, none⟩ = some (.int .i64 sf) ∧ w'.cell? ⟨g, i * 5 + 3, none⟩ = some (.slice (some ⟨ab, 0, none⟩) sn sc) ∧ w'.cell? ⟨g, i * 5 + 4, none⟩ = some (.map (some b)))
      (first | go_keep | exact ⟨cb 3, (ca _).trans h0, (ca _).trans h1, (ca _).trans h2, (ca _).trans h3, (ca _).trans h4⟩) (first | (go_at_call 82; refine (end_any _ _ _ _ _ _ _ _ (by omega) (by omega)).mono ?_; rintro e w1 ⟨rfl, hbl⟩; have hga := (hbl.block g (by first | (simp; done) | (simp; omega) | omega)).trans ((hp_alloc_lt (by first | (simp; done) | (simp; omega) | omega) _).trans ((hp_alloc_lt hg _).trans hh)); have ⟨ca, fa⟩ := cells_of_heap hga; have hgb := (hbl.block w.heap.size (by first | (simp; done) | (simp; omega) | omega)).trans ((hp_alloc_lt (by first | (simp; done) | (simp; omega) | omega) _).trans (heap_alloc_new w _)); have ⟨cb, fb⟩ := cells_of_heap hgb; have hgc := (hbl.block (w.heap.size + 1) (by first | (simp; done) | (simp; omega) | omega)).trans (hp_alloc_new (by first | (simp; done) | (simp; omega) | omega) _); have ⟨cc, fc⟩ := cells_of_heap hgc; have hz1 : w.heap.size + 1 < w1.heap.size := (by have := hbl.size; simp at this; omega); have hk1 : ∀ M, Keep M w w1 := fun M => (((Keep.refl M w).alloc _).alloc _).drew.trans (Keep.of_below hbl) (fun _ _ h => h)))
    go_wp2_with fail
    all_goals refine (clone_nil w1 _ _ _ l (by omega) HL0.out).mono ?_
    all_goals
      rintro e w2 ⟨v', rfl, r2, hb2⟩
      obtain ⟨A', c', rfl⟩ := r2.form
      have hz2 := hb2.size
      have hgd := (hb2.block g (by omega)).trans hga
      have hgf := (hb2.block (w.heap.size + 1) (by omega)).trans hgc
      have ⟨cd, fd⟩ := cells_of_heap hgd
      have ⟨cf, ff⟩ := cells_of_heap hgf
      have cd4 := (cd _).trans h4
      have hbg : b ≠ g := (hG b s7).2
      have hbl' := s8.lt
      have hk2 : Keep (fun k => k = g ∨ G k) w w2 := (hk1 _).trans (Keep.of_below (M := fun _ => False) hb2) (fun _ _ h => h.elim)
      have sm2 : ∀ u v, MapAt kS vI ((w2.setCell ⟨g, i * 5 + 3, none⟩ u).setCell ⟨g, i * 5 + 2, none⟩ v) b q.groups := fun u v => s8.same (by
        rw [hp_set_other hbg, hp_set_other hbg, hb2.block b (by omega)]
        exact (hk1 (fun _ => False)).block b hbl' (fun h => h))
      go_wp2_with (at_range; refine wpList_mrange (by rfl) _ rfl Try.underlying84 (sm2 _ _) rfl ?_; intro ob hit)
      have gW := heap_setCell (heap_setCell hgd (o := i * 5 + 3) (.slice A' l.length c')) (o := i * 5 + 2) (.int .i64 ((sf : Int) + (sn : Int)))
      have gR : ((w2.setCell ⟨g, i * 5 + 3, none⟩ (.slice A' l.length c')).setCell ⟨g, i * 5 + 2, none⟩ (.int .i64 ((sf : Int) + (sn : Int)))).heap[w.heap.size + 1]? = some (.cells #[.int .i64 0, .int .i64 0, .slice none 0 0] 28 (0, 0)) := by
        rw [hp_set_other (by omega), hp_set_other (by omega)]; exact hgf
      have kW : Keep (fun k => k = g ∨ G k) w ((w2.setCell ⟨g, i * 5 + 3, none⟩ (.slice A' l.length c')).setCell ⟨g, i * 5 + 2, none⟩ (.int .i64 ((sf : Int) + (sn : Int)))) :=
        (hk2.setCell (a := ⟨g, i * 5 + 3, none⟩) (.inl (.inl rfl)) _).setCell (a := ⟨g, i * 5 + 2, none⟩) (.inl (.inl rfl)) _
      have rW : Row (Made w1 w2) ((w2.setCell ⟨g, i * 5 + 3, none⟩ (.slice A' l.length c')).setCell ⟨g, i * 5 + 2, none⟩ (.int .i64 ((sf : Int) + (sn : Int)))) 9 1 (.slice A' l.length c') l.length (textsV l) :=
        (r2.far (a := ⟨g, i * 5 + 3, none⟩) (by rintro ⟨h9, _⟩; simp at h9; omega) _).far (a := ⟨g, i * 5 + 2, none⟩) (by rintro ⟨h9, _⟩; simp at h9; omega) _
      have zW : w2.heap.size ≤ ((w2.setCell ⟨g, i * 5 + 3, none⟩ (.slice A' l.length c')).setCell ⟨g, i * 5 + 2, none⟩ (.int .i64 ((sf : Int) + (sn : Int)))).heap.size := by simp [hp_size_set]
      generalize ((w2.setCell ⟨g, i * 5 + 3, none⟩ (.slice A' l.length c')).setCell ⟨g, i * 5 + 2, none⟩ (.int .i64 ((sf : Int) + (sn : Int)))) = w3 at hit gW gR kW rW zW ⊢
      clear sm2
      have gW := (hp_alloc_lt (by omega) ob).trans gW
      have gR := (hp_alloc_lt (by omega) ob).trans gR
      have kW := kW.alloc ob
      have rW := rW.alloc ob
      have zI : w2.heap.size ≤ w3.heap.size := zW
      obtain ⟨it, hit0⟩ : ∃ it, w3.heap.size = it := ⟨_, rfl⟩
      have zW : it < (w3.alloc ob).heap.size := by simp; omega
      rw [hit0] at hit zI ⊢
      generalize w3.alloc ob = w4 at hit gW gR kW rW zW ⊢
      have hbl4 := hit.map.lt
      have hitb := hit.ne
      clear hit0
      have hgb4 : g ≠ it := by omega
      have hrb4 : w.heap.size + 1 ≠ b := by omega
      have hri4 : w.heap.size + 1 ≠ it := by omega
      go_frame
      go_loopw [11] (fun _ wr => ∃ done, IterAt kS vI wr it b (mx (sf + sn) done q.groups) done ∧ Keep (fun x => x = b ∨ x = it) w4 wr) (fun _ wr => q.groups.length - visited wr it)
      case atStart => exact ⟨[], by rw [mx_nil]; exact hit, Keep.refl _ _⟩
      case round =>
        obtain ⟨done, hI, hk⟩ := hrel
        have hle := hI.done_le
        have hvis := hI.visited
        have gg := hk.heap gW (by omega)
        have gr := hk.heap gR (by omega)
        have ⟨cg, fg⟩ := cells_of_heap gg
        have ⟨cr, fr⟩ := cells_of_heap gr
        have cg4 := (cg (i * 5 + 4)).trans (show _ = some (.map (some b)) by rw [set_get _ _ _ _ (by simp; omega), if_neg (by omega), set_get _ _ _ _ (by omega), if_neg (by omega)]; exact h4)
        go_wp2_with (at_next; refine wpList_mnext (by rfl) _ rfl hI rfl ?_ ?_)
        · intro hall
          rw [mx_all _ _ _ (by simpa [mx_length] using hall)] at hI
          go_wp2
          have hkk : Keep (fun k => k = g ∨ G k) w wr := kW.trans hk (fun k hk2 h => h.elim (fun e => .inr (e ▸ s7)) (fun e => by omega))
          have h4' := h4
          rw [← S6.out] at h4'
          obtain ⟨y1, y2, y3⟩ := set1_spec cs i 3 (.slice A' l.length c') ⟨su, snm, sf, some ⟨ab, 0, none⟩, sn, sc, sm⟩ ⟨su, snm, sf, A', l.length, c', sm⟩ hz hi (by omega) h0 h1 h2 h3 h4' rfl (sc3 ⟨su, snm, sf, some ⟨ab, 0, none⟩, sn, sc, sm⟩ A' l.length c')
          obtain ⟨z1, z2, z3⟩ := set1_spec _ i 2 (.int .i64 ((sf : Int) + (sn : Int))) ⟨su, snm, sf, A', l.length, c', sm⟩ ⟨su, snm, sf + sn, A', l.length, c', sm⟩ y1 hi (by omega) (y2 0 (by omega)) (y2 1 (by omega)) (y2 2 (by omega)) (y2 3 (by omega)) (y2 4 (by omega))
            (by simp [SC.get]) (by intro j hj hne; have hj' : j = 0 ∨ j = 1 ∨ j = 3 ∨ j = 4 := by omega
                                   rcases hj' with rfl | rfl | rfl | rfl <;> rfl)
          have hgr1 : g ≠ w.heap.size + 1 := by omega
          have hszr := hkk.size
          have hszk := hk.size
          refine bodyPost_ret (v := .agg #[.int .i64 0, .int .i64 ((sf : Int) + (sn : Int) - (sf : Int)), .slice none 0 0]) (by simp [results, Try.results77, go_sem, cr]) rfl ⟨by rw [show (sf : Int) + (sn : Int) - (sf : Int) = (sn : Int) by omega], ?_, ?_⟩
          · refine ShelfAt.mono (F := fun k => F k ∨ Grow G w _ k) (back _ _ ⟨su, snm, sf + sn, A', l.length, c', sm⟩ (some ⟨q.name, sf + sn, l, q.groups.map (fun p => (p.1, max p.2 (sf + sn)))⟩) (Grow G w _) ?_ z1 z2 (fun k hk => (z3 k hk).trans (y3 k hk)) ?_ ⟨S1.out, S2.out, rfl, rfl, ?_, b, S6.out, .inl s7, ?_⟩ (fun k hk => hk)) ?_
            · simp only [hp_set_other hgr1]
              exact gg
            · (repeat (first | with_reducible exact Keep.refl _ _ | with_reducible exact hk1 _ | with_reducible exact hk2 | with_reducible refine Keep.drew ?_ | with_reducible refine Keep.alloc ?_ _ | with_reducible refine Keep.setCell ?_ (by first | exact Or.inl (Or.inl rfl) | exact Or.inl (Or.inr rfl) | exact Or.inl rfl | (right; simp; done) | (right; simp; omega) | (right; omega)) _))
              exact hkk
            · have rr := rW.keep hk (by rintro k ⟨h9, h8⟩; omega)
              have rr2 := ((rr.far (a := ⟨w.heap.size + 1, 0, none⟩) (by rintro ⟨h9, _⟩; simp at h9; omega) (.int .i64 0)).far (a := ⟨w.heap.size + 1, 1, none⟩) (by rintro ⟨h9, _⟩; simp at h9; omega) (.int .i64 ((sf : Int) + (sn : Int) - (sf : Int)))).far (a := ⟨w.heap.size + 1, 2, none⟩) (by rintro ⟨h9, _⟩; simp at h9; omega) (.slice none 0 0)
              exact rr2.mono (fun k hk h => .inr ⟨by have := hk.1; omega, h⟩)
            · refine hI.map.same ?_
              simp only [hp_set_other (show b ≠ w.heap.size + 1 by omega)]
            · intro k hk
              rcases hk with h | h | h
              · exact .inl h
              · exact .inl (hG k h).1
              · exact .inr h
          · refine Keep.mono (M := fun k => k = g ∨ G k) ?_ (fun k _ hk => hk.elim (fun e => e ▸ hF) (fun e => (hG k e).1))
            (repeat (first | with_reducible exact Keep.refl _ _ | with_reducible exact hk1 _ | with_reducible exact hk2 | with_reducible refine Keep.drew ?_ | with_reducible refine Keep.alloc ?_ _ | with_reducible refine Keep.setCell ?_ (by first | exact Or.inl (Or.inl rfl) | exact Or.inl (Or.inr rfl) | exact Or.inl rfl | (right; simp; done) | (right; simp; omega) | (right; omega)) _))
            exact hkk
        · intro i2 hi2 hni w5 hI5 hk5 hz5 hent
          have hi3 : i2 < q.groups.length := by simpa [mx_length] using hi2
          rw [mx_get _ _ _ _ hi3 hni] at hent ⊢
          have hstep := mx_step (sf + sn) done q.groups i2 hi3 hni
          obtain ⟨⟨p1, p2⟩, hp⟩ : ∃ p, q.groups[i2] = p := ⟨_, rfl⟩
          have hkey : (mx (sf + sn) done q.groups)[i2].1 = p1 := by rw [mx_get _ _ _ _ hi3 hni, hp]
          rw [hp] at hent hstep ⊢
          have gg5 := hk5.heap gg (by omega)
          have gr5 := hk5.heap gr (by omega)
          have ⟨ch, fh⟩ := cells_of_heap gg5
          have ch4 := (ch (i * 5 + 4)).trans ((cg _).symm.trans cg4)
          by_cases hpk : p2 < sf + sn
          · rw [Nat.max_eq_right (by omega)] at hstep
            go_wp2_with (at_mapUpdate; refine wpList_istore (by rfl) _ _ _ rfl (strKey Try.underlying9) Try.underlying84 hI5 hi2 p1 hkey rfl rfl (sf + sn) (by simp [vI, Act.eval, Act.put]) ?_; intro w6 hI6 hk6 hz6)
            refine ⟨⟨⟨done ++ [i2], by rw [← hstep]; exact hI6⟩, (hk.trans hk5 (fun k _ h => .inr h)).trans hk6 (fun k _ h => .inl h)⟩, ?_⟩
            have hv6 := hI6.visited
            have hl6 := hI6.done_le
            rw [hv6]
            simp [mx_length] at hl6 ⊢
            omega
          · rw [Nat.max_eq_left (by omega)] at hstep
            go_wp2_with (at_mapUpdate; refine wpList_istore (by rfl) _ _ _ rfl (strKey Try.underlying9) Try.underlying84 hI5 hi2 p1 hkey rfl rfl p2 (by simp [vI, Act.eval, Act.put]) ?_; intro w6 hI6 hk6 hz6)
            refine ⟨⟨⟨done ++ [i2], by rw [← hstep]; exact hI6⟩, (hk.trans hk5 (fun k _ h => .inr h)).trans hk6 (fun k _ h => .inl h)⟩, ?_⟩
            have hv6 := hI6.visited
            have hl6 := hI6.done_le
            rw [hv6]
            simp [mx_length] at hl6 ⊢
            omega
end Go.Proofs.Ytfahakmnlmlgcaa
