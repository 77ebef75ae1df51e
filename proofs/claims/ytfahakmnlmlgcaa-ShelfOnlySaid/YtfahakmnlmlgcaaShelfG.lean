/-
  Contracts of the shelf's take.
-/
import Derived.Test.YtfahakmnlmlgcaaShelfC
import Derived.Deep.RegionLaw
import Derived.Deep.QuietTactic
import Derived.BigQuiet
namespace Go.Proofs.Ytfahakmnlmlgcaa
open Go.RowKit Go.Lib
set_option linter.unusedVariables false
set_option linter.unusedSimpArgs false

theorem Try.zeroInt (w : World) : (zeroValue 3).run Try.prog w = .ok (.int .i64 0) w := by kernel_rfl

/-- What a look-up of a group finds: its number, and is it there? -/
def grp (m : List (ByteArray × Nat)) (t : ByteArray) : Option Nat := (m.find? (fun p => p.1 == t)).map (·.2)

theorem look_grp {w : World} {b : Nat} {m : List (ByteArray × Nat)} (h : MapAt kS vI w b m) (t : ByteArray) :
    (Instr.lookup 84 (.map (some b)) (.string t) true).run Try.prog w = .ok (.tuple #[.int .i64 (((grp m t).getD 0 : Nat) : Int), .bool (grp m t).isSome]) w := by
  have K : KeyFn Try.prog 9 kS := strKey Try.underlying9
  have hnd := h.nodup
  rcases h.look K Try.underlying84 (.int .i64 0) (Try.zeroInt w) t true with ⟨hr, hn⟩ | ⟨v, hr, hv⟩
  · have e : grp m t = none := by
      rw [grp, Option.map_eq_none_iff, List.find?_eq_none]
      intro p hp he
      have := (MapKept.bytes_beq p.1 t).1 he
      exact hn (List.mem_map.2 ⟨p, hp, this⟩)
    rw [e]; simpa using hr
  · have e : grp m t = some v := by
      rw [grp, Option.map_eq_some_iff]
      obtain ⟨i, hi, hie⟩ := List.mem_iff_getElem.1 hv
      refine ⟨(t, v), ?_, rfl⟩
      rw [List.find?_eq_some_iff_getElem]
      refine ⟨bbeq_self t, i, hi, hie, fun j hj => ?_⟩
      have hne : ¬ m[j].1 = t := fun e => by
        have := nodup_inj hnd (i := j) (j := i) (by simp; omega) (by simpa using hi) (by simp [hie, e])
        omega
      simp [bbeq_ne hne]
    rw [e]; simpa using hr

theorem take_empty (F : Nat → Prop) (w : World) (g i : Nat) (S : Nat → Option Qu) (o : OpS) (q : Qu) (x : Nat) (h : ShelfAt F w g S) (hi : i < 8) (hq : S i = some q) (hb : q.first + q.items.length ≤ 1099511627776)
    (hx : grp q.groups o.text = some x) (he : x = q.first + q.items.length) :
    Calls Try.prog 78 #[.pointer (some ⟨g, 0, none⟩), .int .i64 i, o.val] w fun e w' => e = .returned (.agg #[.int .i64 4, .int .i64 0, .slice none 0 0]) ∧ Below w.heap.size w w' := by
  have hg := h.lt
  obtain ⟨cs, s, G, hh, hz, h0, h1, h2, h3, h4, hs, hF, hG, back⟩ := h.focus i hi
  have ⟨hc, hf⟩ := cells_of_heap hh
  rw [hq] at hs
  obtain ⟨s1, s2, s3, s4, s5, b, s6, s7, s8⟩ := hs
  have hi' : (i : Int) < 8 := by omega
  have hbl := s8.lt
  have hm0 : ∀ a c, MapAt kS vI ((w.alloc a).alloc c).drew b q.groups := fun a c => s8.same ((hp_alloc_lt (by simp; omega) _).trans (hp_alloc_lt hbl _))
  have hlook : ∀ a c, (Instr.lookup 84 (.map (some b)) (.string o.text) true).run Try.prog ((w.alloc a).alloc c).drew = .ok (.tuple #[.int .i64 ((x : Nat) : Int), .bool true]) ((w.alloc a).alloc c).drew := by
    intro a c
    have := look_grp (hm0 a c) o.text
    rw [hx] at this
    exact this
  rw [s6] at h4
  have hW : ∀ a c k v, cs[k]? = some v → ((w.alloc a).alloc c).cell? ⟨g, k, none⟩ = some v := by
    intro a c k v hv
    rw [World.cell?_alloc_lt _ _ _ (by simp; omega), World.cell?_alloc_lt _ _ _ hg, hc, hv]
  have f4 := fun a c => hW a c _ _ h4
  rw [← s4] at hb he
  rw [← s3] at hb he
  clear s1 s2 s3 s4 s6 back hW hx hm0
  subst he
  unfold OpS.val
  go_enter Try.func78, Try.ntmps78
  go_wp2_with fail
  go_region
  go_wp2_with (go_at_call 82; refine (end_any _ _ _ _ _ _ _ _ (by omega) (by omega)).mono ?_; rintro e w1 ⟨rfl, hbl⟩; have hga := (hbl.block g (by first | (simp; done) | (simp; omega) | omega)).trans ((hp_alloc_lt (by first | (simp; done) | (simp; omega) | omega) _).trans ((hp_alloc_lt hg _).trans hh)); have ⟨ca, fa⟩ := cells_of_heap hga; have hgb := (hbl.block w.heap.size (by first | (simp; done) | (simp; omega) | omega)).trans ((hp_alloc_lt (by first | (simp; done) | (simp; omega) | omega) _).trans (heap_alloc_new w _)); have ⟨cb, fb⟩ := cells_of_heap hgb; have hgc := (hbl.block (w.heap.size + 1) (by first | (simp; done) | (simp; omega) | omega)).trans (hp_alloc_new (by first | (simp; done) | (simp; omega) | omega) _); have ⟨cc, fc⟩ := cells_of_heap hgc; have hz1 : w.heap.size + 1 < w1.heap.size := (by have := hbl.size; simp at this; omega); have hk1 : ∀ M, Keep M w w1 := fun M => (((Keep.refl M w).alloc _).alloc _).drew.trans (Keep.of_below hbl) (fun _ _ h => h))
  refine bodyPost_ret (v := .agg #[.int .i64 4, .int .i64 0, .slice none 0 0]) (by simp [results, Try.results78, go_sem, cc]) rfl ⟨rfl, ?_⟩
  (refine Keep.below (M := fun _ => False) ?_ (fun _ _ h => h)); (repeat (first | with_reducible exact Keep.refl _ _ | with_reducible exact hk1 _ | with_reducible exact hk2 | with_reducible refine Keep.drew ?_ | with_reducible refine Keep.alloc ?_ _ | with_reducible refine Keep.setCell ?_ (by first | exact Or.inl (Or.inl rfl) | exact Or.inl (Or.inr rfl) | exact Or.inl rfl | (right; simp; done) | (right; simp; omega) | (right; omega)) _))

set_option maxRecDepth 100000 in
theorem take_full (F : Nat → Prop) (w : World) (g i : Nat) (S : Nat → Option Qu) (o : OpS) (q : Qu) (h : ShelfAt F w g S) (hi : i < 8) (hq : S i = some q)
    (hx : grp q.groups o.text = none) (hfull : 4 ≤ q.groups.length) :
    Calls Try.prog 78 #[.pointer (some ⟨g, 0, none⟩), .int .i64 i, o.val] w fun e w' => e = .returned (.agg #[.int .i64 3, .int .i64 0, .slice none 0 0]) ∧ Below w.heap.size w w' := by
  have hg := h.lt
  obtain ⟨cs, s, G, hh, hz, h0, h1, h2, h3, h4, hs, hF, hG, back⟩ := h.focus i hi
  have ⟨hc, hf⟩ := cells_of_heap hh
  rw [hq] at hs
  obtain ⟨s1, s2, s3, s4, s5, b, s6, s7, s8⟩ := hs
  have hi' : (i : Int) < 8 := by omega
  have hbl := s8.lt
  have hm0 : ∀ a c, MapAt kS vI ((w.alloc a).alloc c).drew b q.groups := fun a c => s8.same ((hp_alloc_lt (by simp; omega) _).trans (hp_alloc_lt hbl _))
  have hlook : ∀ a c, (Instr.lookup 84 (.map (some b)) (.string o.text) true).run Try.prog ((w.alloc a).alloc c).drew = .ok (.tuple #[.int .i64 ((0 : Nat) : Int), .bool false]) ((w.alloc a).alloc c).drew := by
    intro a c
    have := look_grp (hm0 a c) o.text
    rw [hx] at this
    exact this
  rw [s6] at h4
  have hW : ∀ a c k v, cs[k]? = some v → ((w.alloc a).alloc c).cell? ⟨g, k, none⟩ = some v := by
    intro a c k v hv
    rw [World.cell?_alloc_lt _ _ _ (by simp; omega), World.cell?_alloc_lt _ _ _ hg, hc, hv]
  have f4 := fun a c => hW a c _ _ h4
  clear s1 s2 s3 s4 s6 back hW hx
  unfold OpS.val
  go_enter Try.func78, Try.ntmps78
  go_wp2_with fail
  go_region
  go_wp2_with (at_len; refine wpList_mlen' (by rfl) _ rfl Try.underlying84 (hm0 _ _) rfl ?_)
  all_goals
    refine bodyPost_ret (v := .agg #[.int .i64 3, .int .i64 0, .slice none 0 0]) (by simp [results, Try.results78, go_sem]) rfl ⟨rfl, ?_⟩
    (refine Keep.below (M := fun _ => False) ?_ (fun _ _ h => h)); (repeat (first | with_reducible exact Keep.refl _ _ | with_reducible exact hk1 _ | with_reducible exact hk2 | with_reducible refine Keep.drew ?_ | with_reducible refine Keep.alloc ?_ _ | with_reducible refine Keep.setCell ?_ (by first | exact Or.inl (Or.inl rfl) | exact Or.inl (Or.inr rfl) | exact Or.inl rfl | (right; simp; done) | (right; simp; omega) | (right; omega)) _))

theorem take_empty0 (F : Nat → Prop) (w : World) (g i : Nat) (S : Nat → Option Qu) (o : OpS) (q : Qu) (h : ShelfAt F w g S) (hi : i < 8) (hq : S i = some q) (hb : q.first + q.items.length ≤ 1099511627776)
    (hx : grp q.groups o.text = none) (hroom : q.groups.length < 4) (he : q.items.length = 0) :
    Calls Try.prog 78 #[.pointer (some ⟨g, 0, none⟩), .int .i64 i, o.val] w fun e w' => e = .returned (.agg #[.int .i64 4, .int .i64 0, .slice none 0 0]) ∧ Below w.heap.size w w' := by
  have hg := h.lt
  obtain ⟨cs, s, G, hh, hz, h0, h1, h2, h3, h4, hs, hF, hG, back⟩ := h.focus i hi
  have ⟨hc, hf⟩ := cells_of_heap hh
  rw [hq] at hs
  obtain ⟨s1, s2, s3, s4, s5, b, s6, s7, s8⟩ := hs
  have hi' : (i : Int) < 8 := by omega
  have hbl := s8.lt
  have hm0 : ∀ a c, MapAt kS vI ((w.alloc a).alloc c).drew b q.groups := fun a c => s8.same ((hp_alloc_lt (by simp; omega) _).trans (hp_alloc_lt hbl _))
  have hlook : ∀ a c, (Instr.lookup 84 (.map (some b)) (.string o.text) true).run Try.prog ((w.alloc a).alloc c).drew = .ok (.tuple #[.int .i64 ((0 : Nat) : Int), .bool false]) ((w.alloc a).alloc c).drew := by
    intro a c
    have := look_grp (hm0 a c) o.text
    rw [hx] at this
    exact this
  rw [s6] at h4
  have hW : ∀ a c k v, cs[k]? = some v → ((w.alloc a).alloc c).cell? ⟨g, k, none⟩ = some v := by
    intro a c k v hv
    rw [World.cell?_alloc_lt _ _ _ (by simp; omega), World.cell?_alloc_lt _ _ _ hg, hc, hv]
  have f4 := fun a c => hW a c _ _ h4
  rw [← s4] at hb he
  rw [← s3] at hb
  clear s1 s2 s3 s4 s6 back hW hx
  obtain ⟨su, snm, sf, sA, sn, sc, sm⟩ := s
  simp only at *
  subst he
  unfold OpS.val
  go_enter Try.func78, Try.ntmps78
  go_wp2_with fail
  go_region
  go_wp2_with (first | (at_len; refine wpList_mlen' (by rfl) _ rfl Try.underlying84 (hm0 _ _) rfl ?_) | (go_at_call 82; refine (end_any _ _ _ _ _ _ _ _ (by omega) (by omega)).mono ?_; rintro e w1 ⟨rfl, hbl⟩; have hga := (hbl.block g (by first | (simp; done) | (simp; omega) | omega)).trans ((hp_alloc_lt (by first | (simp; done) | (simp; omega) | omega) _).trans ((hp_alloc_lt hg _).trans hh)); have ⟨ca, fa⟩ := cells_of_heap hga; have hgb := (hbl.block w.heap.size (by first | (simp; done) | (simp; omega) | omega)).trans ((hp_alloc_lt (by first | (simp; done) | (simp; omega) | omega) _).trans (heap_alloc_new w _)); have ⟨cb, fb⟩ := cells_of_heap hgb; have hgc := (hbl.block (w.heap.size + 1) (by first | (simp; done) | (simp; omega) | omega)).trans (hp_alloc_new (by first | (simp; done) | (simp; omega) | omega) _); have ⟨cc, fc⟩ := cells_of_heap hgc; have hz1 : w.heap.size + 1 < w1.heap.size := (by have := hbl.size; simp at this; omega); have hk1 : ∀ M, Keep M w w1 := fun M => (((Keep.refl M w).alloc _).alloc _).drew.trans (Keep.of_below hbl) (fun _ _ h => h)))
  refine bodyPost_ret (v := .agg #[.int .i64 4, .int .i64 0, .slice none 0 0]) (by simp [results, Try.results78, go_sem, cc]) rfl ⟨rfl, ?_⟩
  (refine Keep.below (M := fun _ => False) ?_ (fun _ _ h => h)); (repeat (first | with_reducible exact Keep.refl _ _ | with_reducible exact hk1 _ | with_reducible exact hk2 | with_reducible refine Keep.drew ?_ | with_reducible refine Keep.alloc ?_ _ | with_reducible refine Keep.setCell ?_ (by first | exact Or.inl (Or.inl rfl) | exact Or.inl (Or.inr rfl) | exact Or.inl rfl | (right; simp; done) | (right; simp; omega) | (right; omega)) _))

set_option maxRecDepth 100000 in
theorem take_ok1 (F : Nat → Prop) (w : World) (g i : Nat) (S : Nat → Option Qu) (o : OpS) (q : Qu) (j : Nat) (h : ShelfAt F w g S) (hi : i < 8) (hq : S i = some q) (hb : q.first + q.items.length ≤ 1099511627776)
    (hx : grp q.groups o.text = some (q.first + j)) (tj : ByteArray) (htj : q.items[j]? = some tj) :
    Calls Try.prog 78 #[.pointer (some ⟨g, 0, none⟩), .int .i64 i, o.val] w fun e w' => ∃ v, e = .returned (.agg #[.int .i64 0, .int .i64 ((q.first + j : Nat) : Int), v]) ∧ Row (Made w w') w' 9 1 v 1 (textsV [tj]) ∧
      ShelfAt F w' g (put S i (some ⟨q.name, q.first, q.items, upd q.groups o.text (q.first + j + 1)⟩)) ∧ Keep F w w' := by
  have hj : j < q.items.length := (List.getElem?_eq_some_iff.1 htj).1
  have TJ := Lib.hid htj
  clear htj
  have hg := h.lt
  obtain ⟨cs, s, G, hh, hz, h0, h1, h2, h3, h4, hs, hF, hG, back⟩ := h.focus i hi
  have ⟨hc, hf⟩ := cells_of_heap hh
  rw [hq] at hs
  obtain ⟨s1, s2, s3, s4, s5, b, s6, s7, s8⟩ := hs
  have hi' : (i : Int) < 8 := by omega
  have hbl := s8.lt
  have hm0 : ∀ a c, MapAt kS vI ((w.alloc a).alloc c).drew b q.groups := fun a c => s8.same ((hp_alloc_lt (by simp; omega) _).trans (hp_alloc_lt hbl _))
  have hlook : ∀ a c, (Instr.lookup 84 (.map (some b)) (.string o.text) true).run Try.prog ((w.alloc a).alloc c).drew = .ok (.tuple #[.int .i64 ((q.first + j : Nat) : Int), .bool true]) ((w.alloc a).alloc c).drew := by
    intro a c
    have := look_grp (hm0 a c) o.text
    rw [hx] at this
    exact this
  rw [s6] at h4
  have hW : ∀ a c k v, cs[k]? = some v → ((w.alloc a).alloc c).cell? ⟨g, k, none⟩ = some v := by
    intro a c k v hv
    rw [World.cell?_alloc_lt _ _ _ (by simp; omega), World.cell?_alloc_lt _ _ _ hg, hc, hv]
  have f4 := fun a c => hW a c _ _ h4
  have S3 := Lib.hid s3
  have S4 := Lib.hid s4
  rw [← s3] at hlook hb hx ⊢
  rw [← s4] at hb
  have hj' : j < s.n := by omega
  obtain ⟨ab, ac, eA, hac, _⟩ := s5.pos (by omega)
  have S1 := Lib.hid s1
  have S2 := Lib.hid s2
  have S6 := Lib.hid s6
  clear s1 s2 s3 s4 s6 hW hx
  obtain ⟨su, snm, sf, sA, sn, sc, sm⟩ := s
  simp only at *
  simp only [Value.slice.injEq] at eA
  obtain ⟨rfl, _, rfl⟩ := eA
  have hne : ((sf : Int) + (j : Int) == (sf : Int) + (sn : Int)) = false := by rw [beq_eq_false_iff_ne]; omega
  unfold OpS.val
  go_enter Try.func78, Try.ntmps78
  go_wp2_with fail
  go_region
  go_wp2_with (go_at_call 82; refine (end_any _ _ _ _ _ _ _ _ (by omega) (by omega)).mono ?_; rintro e w1 ⟨rfl, hbl⟩; have hga := (hbl.block g (by first | (simp; done) | (simp; omega) | omega)).trans ((hp_alloc_lt (by first | (simp; done) | (simp; omega) | omega) _).trans ((hp_alloc_lt hg _).trans hh)); have ⟨ca, fa⟩ := cells_of_heap hga; have hgb := (hbl.block w.heap.size (by first | (simp; done) | (simp; omega) | omega)).trans ((hp_alloc_lt (by first | (simp; done) | (simp; omega) | omega) _).trans (heap_alloc_new w _)); have ⟨cb, fb⟩ := cells_of_heap hgb; have hgc := (hbl.block (w.heap.size + 1) (by first | (simp; done) | (simp; omega) | omega)).trans (hp_alloc_new (by first | (simp; done) | (simp; omega) | omega) _); have ⟨cc, fc⟩ := cells_of_heap hgc; have hz1 : w.heap.size + 1 < w1.heap.size := (by have := hbl.size; simp at this; omega); have hk1 : ∀ M, Keep M w w1 := fun M => (((Keep.refl M w).alloc _).alloc _).drew.trans (Keep.of_below hbl) (fun _ _ h => h))
  have hz2 := Lib.hid hz1
  have ca4 := (ca (i * 5 + 4)).trans h4
  have cb2 : w1.cell? ⟨w.heap.size, 2, none⟩ = some (.string o.text) := cb 2
  have m1 : MapAt kS vI w1.drew b q.groups := s8.same ((hk1 (fun _ => False)).block b s8.lt (fun h => h))
  obtain ⟨w2, hst0, m2, kw2, zw2⟩ := m1.store (P := Try.prog) (strKey Try.underlying9) Try.underlying84 o.text (sf + j + 1)
  have hst : (Instr.mapUpdate 84 (.map (some b)) (.string o.text) (.int .i64 ((sf : Int) + (j : Int) + 1))).run Try.prog w1.drew = .ok () w2 := by
    have e : ((sf : Int) + (j : Int) + 1) = ((sf + j + 1 : Nat) : Int) := by omega
    rw [e]; exact hst0
  have hbg : b ≠ g := (hG b s7).2
  have hbl' := s8.lt
  have hga2 := kw2.heap (k := g) hga (fun e => hbg e.symm)
  have hgc2 := kw2.heap (k := w.heap.size + 1) hgc (by omega)
  have ⟨ce, fe⟩ := cells_of_heap hga2
  have ⟨cf, ff⟩ := cells_of_heap hgc2
  have ce3 := (ce (i * 5 + 3)).trans h3
  have ce2 := (ce (i * 5 + 2)).trans h2
  have r1 := s5.keep (hk1 (fun _ => False)) (fun _ _ h => h)
  have r2 : Row G w2 9 1 _ sn _ := ⟨kw2.row r1.drew.1 (fun k hk e => by
    subst e
    exact (s8.same (w' := w1) ((hk1 (fun _ => False)).block _ hbl' (fun h => h))).ne_row r1 hk), r1.2⟩
  have cj : w2.cell? ⟨ab, j, none⟩ = some (.string tj) := by
    have := r2.1.cells (g := ab) rfl j (.string tj) (by simp [textsV, TJ.out])
    simpa [Src.add_lit] using this
  have f0 := ff 0
  have f1 := ff 1
  have f2 := ff 2
  have c0 : w2.cell? ⟨w.heap.size + 1, 0, none⟩ = some (.int .i64 0) := cf 0
  have c1 : w2.cell? ⟨w.heap.size + 1, 1, none⟩ = some (.int .i64 0) := cf 1
  have c2 : w2.cell? ⟨w.heap.size + 1, 2, none⟩ = some (.slice none 0 0) := cf 2
  have hz3 : w.heap.size + 1 < w2.heap.size := by rw [zw2]; have := hz2.out; simpa using this
  clear zw2
  have hk2 : Keep (fun k => k = g ∨ G k) w w2 := (hk1 _).drew.trans kw2 (fun k _ e => .inr (e ▸ s7))
  have hji : (j : Int) < (sn : Int) := by omega
  go_region
  go_wp2_with fail
  go_region
  go_wp2_with fail
  have hne1 : g ≠ w.heap.size + 1 := by omega
  have hzw : w.heap.size < w2.heap.size := by omega
  refine bodyPost_ret (v := .agg #[.int .i64 0, .int .i64 ((sf : Int) + (j : Int)), .slice (some ⟨w2.heap.size, 0, none⟩) 1 1]) (by simp [results, Try.results78, go_sem, cf, hz3]) rfl ⟨_, by rw [Int.natCast_add], ?_, ?_, ?_⟩
  · refine ⟨⟨rfl, .inr ⟨w2.heap.size, 1, #[.string tj], rfl, Nat.zero_le _, ?_, Nat.le_refl _, by unfold maxLen; omega, rfl, rfl⟩⟩, fun k hk => ?_⟩
    · exact hp_alloc_new (by simp [hp_size_set]) _
    · simp only [Value.ownBlock, Option.some.injEq] at hk
      subst hk
      exact ⟨by omega, by simp [hp_drew, hp_size_set]⟩
  · refine (back _ cs ⟨su, snm, sf, some ⟨ab, 0, none⟩, sn, sc, sm⟩ (some ⟨q.name, sf, q.items, upd q.groups o.text (sf + j + 1)⟩) G ?_ hz ?_ (fun _ _ => rfl) ?_ ⟨S1.out, S2.out, rfl, S4.out, ?_, b, S6.out, s7, ?_⟩ (fun k hk => .inl hk)).mono (fun k hk => hk.elim id (fun h => (hG k h).1))
    · refine (hp_alloc_lt (by simp [hp_size_set]; omega) _).trans ?_
      simp only [hp_set_other hne1]
      exact hga2
    · intro l hl
      have hl' : l = 0 ∨ l = 1 ∨ l = 2 ∨ l = 3 ∨ l = 4 := by omega
      have h4' := h4
      rw [← S6.out] at h4'
      rcases hl' with rfl | rfl | rfl | rfl | rfl <;> assumption
    · (repeat (first | with_reducible exact Keep.refl _ _ | with_reducible exact hk1 _ | with_reducible exact hk2 | with_reducible refine Keep.drew ?_ | with_reducible refine Keep.alloc ?_ _ | with_reducible refine Keep.setCell ?_ (by first | exact Or.inl (Or.inl rfl) | exact Or.inl (Or.inr rfl) | exact Or.inl rfl | (right; simp; done) | (right; simp; omega) | (right; omega)) _))
    · refine ⟨Keep.row (M := fun k => k = w.heap.size + 1) ?_ r2.1 (fun k hk e => ?_), r2.2⟩
      · (repeat (first | with_reducible exact Keep.refl _ _ | with_reducible exact hk1 _ | with_reducible exact hk2 | with_reducible refine Keep.drew ?_ | with_reducible refine Keep.alloc ?_ _ | with_reducible refine Keep.setCell ?_ (by first | exact Or.inl (Or.inl rfl) | exact Or.inl (Or.inr rfl) | exact Or.inl rfl | (right; simp; done) | (right; simp; omega) | (right; omega)) _))
      · subst e; exact r2.ne_block hgc2 (by decide) hk
    · refine m2.same ((hp_alloc_lt (by simp [hp_size_set]; omega) _).trans ?_)
      simp only [hp_set_other (show b ≠ w.heap.size + 1 by omega)]
  · refine Keep.mono (M := fun k => k = g ∨ G k) ?_ (fun k _ hk => hk.elim (fun e => e ▸ hF) (fun e => (hG k e).1))
    (repeat (first | with_reducible exact Keep.refl _ _ | with_reducible exact hk1 _ | with_reducible exact hk2 | with_reducible refine Keep.drew ?_ | with_reducible refine Keep.alloc ?_ _ | with_reducible refine Keep.setCell ?_ (by first | exact Or.inl (Or.inl rfl) | exact Or.inl (Or.inr rfl) | exact Or.inl rfl | (right; simp; done) | (right; simp; omega) | (right; omega)) _))
set_option maxRecDepth 100000 in
theorem take_ok0 (F : Nat → Prop) (w : World) (g i : Nat) (S : Nat → Option Qu) (o : OpS) (q : Qu) (h : ShelfAt F w g S) (hi : i < 8) (hq : S i = some q) (hb : q.first + q.items.length ≤ 1099511627776)
    (hx : grp q.groups o.text = none) (hroom : q.groups.length < 4) (tj : ByteArray) (htj : q.items[0]? = some tj) :
    Calls Try.prog 78 #[.pointer (some ⟨g, 0, none⟩), .int .i64 i, o.val] w fun e w' => ∃ v, e = .returned (.agg #[.int .i64 0, .int .i64 ((q.first : Nat) : Int), v]) ∧ Row (Made w w') w' 9 1 v 1 (textsV [tj]) ∧
      ShelfAt F w' g (put S i (some ⟨q.name, q.first, q.items, upd q.groups o.text (q.first + 1)⟩)) ∧ Keep F w w' := by
  have hj : 0 < q.items.length := (List.getElem?_eq_some_iff.1 htj).1
  have TJ := Lib.hid htj
  clear htj
  have hg := h.lt
  obtain ⟨cs, s, G, hh, hz, h0, h1, h2, h3, h4, hs, hF, hG, back⟩ := h.focus i hi
  have ⟨hc, hf⟩ := cells_of_heap hh
  rw [hq] at hs
  obtain ⟨s1, s2, s3, s4, s5, b, s6, s7, s8⟩ := hs
  have hi' : (i : Int) < 8 := by omega
  have hbl := s8.lt
  have hm0 : ∀ a c, MapAt kS vI ((w.alloc a).alloc c).drew b q.groups := fun a c => s8.same ((hp_alloc_lt (by simp; omega) _).trans (hp_alloc_lt hbl _))
  have hlook : ∀ a c, (Instr.lookup 84 (.map (some b)) (.string o.text) true).run Try.prog ((w.alloc a).alloc c).drew = .ok (.tuple #[.int .i64 ((0 : Nat) : Int), .bool false]) ((w.alloc a).alloc c).drew := by
    intro a c
    have := look_grp (hm0 a c) o.text
    rw [hx] at this
    exact this
  rw [s6] at h4
  have hW : ∀ a c k v, cs[k]? = some v → ((w.alloc a).alloc c).cell? ⟨g, k, none⟩ = some v := by
    intro a c k v hv
    rw [World.cell?_alloc_lt _ _ _ (by simp; omega), World.cell?_alloc_lt _ _ _ hg, hc, hv]
  have f4 := fun a c => hW a c _ _ h4
  have S3 := Lib.hid s3
  have S4 := Lib.hid s4
  rw [← s3] at hb ⊢
  rw [← s4] at hb
  have hj' : 0 < s.n := by omega
  obtain ⟨ab, ac, eA, hac, _⟩ := s5.pos (by omega)
  have S1 := Lib.hid s1
  have S2 := Lib.hid s2
  have S6 := Lib.hid s6
  clear s1 s2 s3 s4 s6 hW hx
  obtain ⟨su, snm, sf, sA, sn, sc, sm⟩ := s
  simp only at *
  simp only [Value.slice.injEq] at eA
  obtain ⟨rfl, _, rfl⟩ := eA
  have hne : ((sf : Int) == (sf : Int) + (sn : Int)) = false := by rw [beq_eq_false_iff_ne]; omega
  unfold OpS.val
  go_enter Try.func78, Try.ntmps78
  go_wp2_with fail
  go_region
  go_wp2_with (first | (at_len; refine wpList_mlen' (by rfl) _ rfl Try.underlying84 (hm0 _ _) rfl ?_) | (go_at_call 82; refine (end_any _ _ _ _ _ _ _ _ (by omega) (by omega)).mono ?_; rintro e w1 ⟨rfl, hbl⟩; have hga := (hbl.block g (by first | (simp; done) | (simp; omega) | omega)).trans ((hp_alloc_lt (by first | (simp; done) | (simp; omega) | omega) _).trans ((hp_alloc_lt hg _).trans hh)); have ⟨ca, fa⟩ := cells_of_heap hga; have hgb := (hbl.block w.heap.size (by first | (simp; done) | (simp; omega) | omega)).trans ((hp_alloc_lt (by first | (simp; done) | (simp; omega) | omega) _).trans (heap_alloc_new w _)); have ⟨cb, fb⟩ := cells_of_heap hgb; have hgc := (hbl.block (w.heap.size + 1) (by first | (simp; done) | (simp; omega) | omega)).trans (hp_alloc_new (by first | (simp; done) | (simp; omega) | omega) _); have ⟨cc, fc⟩ := cells_of_heap hgc; have hz1 : w.heap.size + 1 < w1.heap.size := (by have := hbl.size; simp at this; omega); have hk1 : ∀ M, Keep M w w1 := fun M => (((Keep.refl M w).alloc _).alloc _).drew.trans (Keep.of_below hbl) (fun _ _ h => h)))
  have hz2 := Lib.hid hz1
  have ca4 := (ca (i * 5 + 4)).trans h4
  have cb2 : w1.cell? ⟨w.heap.size, 2, none⟩ = some (.string o.text) := cb 2
  have m1 : MapAt kS vI w1.drew b q.groups := s8.same ((hk1 (fun _ => False)).block b s8.lt (fun h => h))
  obtain ⟨w2, hst0, m2, kw2, zw2⟩ := m1.store (P := Try.prog) (strKey Try.underlying9) Try.underlying84 o.text (sf + 1)
  have hst : (Instr.mapUpdate 84 (.map (some b)) (.string o.text) (.int .i64 ((sf : Int) + 1))).run Try.prog w1.drew = .ok () w2 := by
    have e : ((sf : Int) + 1) = ((sf + 1 : Nat) : Int) := by omega
    rw [e]; exact hst0
  have hbg : b ≠ g := (hG b s7).2
  have hbl' := s8.lt
  have hga2 := kw2.heap (k := g) hga (fun e => hbg e.symm)
  have hgc2 := kw2.heap (k := w.heap.size + 1) hgc (by omega)
  have ⟨ce, fe⟩ := cells_of_heap hga2
  have ⟨cf, ff⟩ := cells_of_heap hgc2
  have ce3 := (ce (i * 5 + 3)).trans h3
  have ce2 := (ce (i * 5 + 2)).trans h2
  have r1 := s5.keep (hk1 (fun _ => False)) (fun _ _ h => h)
  have r2 : Row G w2 9 1 _ sn _ := ⟨kw2.row r1.drew.1 (fun k hk e => by
    subst e
    exact (s8.same (w' := w1) ((hk1 (fun _ => False)).block _ hbl' (fun h => h))).ne_row r1 hk), r1.2⟩
  have cj : w2.cell? ⟨ab, 0, none⟩ = some (.string tj) := by
    have := r2.1.cells (g := ab) rfl 0 (.string tj) (by simp [textsV, TJ.out])
    simpa [Src.add_lit] using this
  have f0 := ff 0
  have f1 := ff 1
  have f2 := ff 2
  have c0 : w2.cell? ⟨w.heap.size + 1, 0, none⟩ = some (.int .i64 0) := cf 0
  have c1 : w2.cell? ⟨w.heap.size + 1, 1, none⟩ = some (.int .i64 0) := cf 1
  have c2 : w2.cell? ⟨w.heap.size + 1, 2, none⟩ = some (.slice none 0 0) := cf 2
  have hz3 : w.heap.size + 1 < w2.heap.size := by rw [zw2]; have := hz2.out; simpa using this
  clear zw2
  have hk2 : Keep (fun k => k = g ∨ G k) w w2 := (hk1 _).drew.trans kw2 (fun k _ e => .inr (e ▸ s7))
  have hji : (0 : Int) < (sn : Int) := by omega
  go_region
  go_wp2_with fail
  go_region
  go_wp2_with fail
  have hne1 : g ≠ w.heap.size + 1 := by omega
  have hzw : w.heap.size < w2.heap.size := by omega
  refine bodyPost_ret (v := .agg #[.int .i64 0, .int .i64 (sf : Int), .slice (some ⟨w2.heap.size, 0, none⟩) 1 1]) (by simp [results, Try.results78, go_sem, cf, hz3]) rfl ⟨_, rfl, ?_, ?_, ?_⟩
  · refine ⟨⟨rfl, .inr ⟨w2.heap.size, 1, #[.string tj], rfl, Nat.zero_le _, ?_, Nat.le_refl _, by unfold maxLen; omega, rfl, rfl⟩⟩, fun k hk => ?_⟩
    · exact hp_alloc_new (by simp [hp_size_set]) _
    · simp only [Value.ownBlock, Option.some.injEq] at hk
      subst hk
      exact ⟨by omega, by simp [hp_drew, hp_size_set]⟩
  · refine (back _ cs ⟨su, snm, sf, some ⟨ab, 0, none⟩, sn, sc, sm⟩ (some ⟨q.name, sf, q.items, upd q.groups o.text (sf + 1)⟩) G ?_ hz ?_ (fun _ _ => rfl) ?_ ⟨S1.out, S2.out, rfl, S4.out, ?_, b, S6.out, s7, ?_⟩ (fun k hk => .inl hk)).mono (fun k hk => hk.elim id (fun h => (hG k h).1))
    · refine (hp_alloc_lt (by simp [hp_size_set]; omega) _).trans ?_
      simp only [hp_set_other hne1]
      exact hga2
    · intro l hl
      have hl' : l = 0 ∨ l = 1 ∨ l = 2 ∨ l = 3 ∨ l = 4 := by omega
      have h4' := h4
      rw [← S6.out] at h4'
      rcases hl' with rfl | rfl | rfl | rfl | rfl <;> assumption
    · (repeat (first | with_reducible exact Keep.refl _ _ | with_reducible exact hk1 _ | with_reducible exact hk2 | with_reducible refine Keep.drew ?_ | with_reducible refine Keep.alloc ?_ _ | with_reducible refine Keep.setCell ?_ (by first | exact Or.inl (Or.inl rfl) | exact Or.inl (Or.inr rfl) | exact Or.inl rfl | (right; simp; done) | (right; simp; omega) | (right; omega)) _))
    · refine ⟨Keep.row (M := fun k => k = w.heap.size + 1) ?_ r2.1 (fun k hk e => ?_), r2.2⟩
      · (repeat (first | with_reducible exact Keep.refl _ _ | with_reducible exact hk1 _ | with_reducible exact hk2 | with_reducible refine Keep.drew ?_ | with_reducible refine Keep.alloc ?_ _ | with_reducible refine Keep.setCell ?_ (by first | exact Or.inl (Or.inl rfl) | exact Or.inl (Or.inr rfl) | exact Or.inl rfl | (right; simp; done) | (right; simp; omega) | (right; omega)) _))
      · subst e; exact r2.ne_block hgc2 (by decide) hk
    · refine m2.same ((hp_alloc_lt (by simp [hp_size_set]; omega) _).trans ?_)
      simp only [hp_set_other (show b ≠ w.heap.size + 1 by omega)]
  · refine Keep.mono (M := fun k => k = g ∨ G k) ?_ (fun k _ hk => hk.elim (fun e => e ▸ hF) (fun e => (hG k e).1))
    (repeat (first | with_reducible exact Keep.refl _ _ | with_reducible exact hk1 _ | with_reducible exact hk2 | with_reducible refine Keep.drew ?_ | with_reducible refine Keep.alloc ?_ _ | with_reducible refine Keep.setCell ?_ (by first | exact Or.inl (Or.inl rfl) | exact Or.inl (Or.inr rfl) | exact Or.inl rfl | (right; simp; done) | (right; simp; omega) | (right; omega)) _))
end Go.Proofs.Ytfahakmnlmlgcaa
