/-
  The contract of the shelf's list.
-/
import Derived.Test.YtfahakmnlmlgcaaQueues
namespace Go.Proofs.Ytfahakmnlmlgcaa
open Go.RowKit Go.Lib Go.Sort Go.Shelf Go.Proofs
set_option linter.unusedVariables false
set_option linter.unusedSimpArgs false

theorem encP_get : ∀ (ps : List (RQ × Qu)) (k j : Nat) (h : k < ps.length), j < 4 → (ps.flatMap encP)[k * 4 + j]? = (encP ps[k])[j]?
  | p :: ps, 0, j, _, hj => by
    rw [List.flatMap_cons, List.getElem?_append_left (by rw [encP_len]; omega)]; simp
  | p :: ps, k + 1, j, h, hj => by
    have := encP_get ps k j (by simpa using h) hj
    rw [List.flatMap_cons, List.getElem?_append_right (by rw [encP_len]; omega), encP_len, show (k + 1) * 4 + j - 4 = k * 4 + j by omega, this]
    simp

theorem Src.oneAt (w : World) (x : ByteArray) (t : TypeId) (k : Nat) (hk : k = w.heap.size) : Src (w.alloc (.cells #[.string x] t)) 1 (.slice (some ⟨k, 0, none⟩) 1 1) 1 [.string x] := by
  subst hk; exact Src.one w _ t rfl

set_option maxRecDepth 100000 in
set_option maxHeartbeats 1000000 in
theorem list_any (F : Nat → Prop) (w : World) (g : Nat) (i : Int) (S : Nat → Option Qu) (o : OpS) (h : ShelfAt F w g S) (hgl : ∀ k, k < 8 → ∀ q, S k = some q → q.groups.length ≤ 12 ∧ q.items.length ≤ 2000000000000) (hnd : ((queuesUp S 8).map (·.name)).Nodup) :
    Calls Try.prog 81 #[.pointer (some ⟨g, 0, none⟩), .int .i64 i, o.val] w fun e w' => ∃ v, e = .returned (.agg #[.int .i64 0, .int .i64 0, v]) ∧ Row (Made w w') w' 9 1 v (listQ S).length (textsV ((listQ S).map (·.name))) ∧ Below w.heap.size w w' := by
  obtain ⟨i0, hi0, iz0, iz1, iz2⟩ := info_parts Try.infoString
  have HND := Lib.hid hnd
  have HGL := Lib.hid hgl
  clear hnd hgl
  unfold OpS.val
  go_enter Try.func81, Try.ntmps81
  go_wp2_with fail
  have kA : Keep (fun _ => False) w (((w.alloc (.cells #[.int .i64 o.kind, .string o.name, .string o.text, .int .i64 o.num, .int .i64 o.most] 33)).alloc (.cells #[.int .i64 0, .int .i64 0, .slice none 0 0] 28)).alloc (.cells #[.int .i64 0, .int .i64 0, .slice none 0 0] 28)) := (((Keep.refl _ w).alloc _).alloc _).alloc _
  have hA := h.keep kA (fun _ _ h => h)
  have hb7 := hp_alloc_new (k := w.heap.size + 1 + 1) (w := ((w.alloc (.cells #[.int .i64 o.kind, .string o.name, .string o.text, .int .i64 o.num, .int .i64 o.most] 33)).alloc (.cells #[.int .i64 0, .int .i64 0, .slice none 0 0] 28))) (by simp) (.cells #[.int .i64 0, .int .i64 0, .slice none 0 0] 28)
  have hb6 := (hp_alloc_lt (w := ((w.alloc (.cells #[.int .i64 o.kind, .string o.name, .string o.text, .int .i64 o.num, .int .i64 o.most] 33)).alloc (.cells #[.int .i64 0, .int .i64 0, .slice none 0 0] 28))) (k := w.heap.size + 1) (by simp) (.cells #[.int .i64 0, .int .i64 0, .slice none 0 0] 28)).trans (hp_alloc_new (by simp) _)
  have zA : w.heap.size + 1 + 1 + 1 = (((w.alloc (.cells #[.int .i64 o.kind, .string o.name, .string o.text, .int .i64 o.num, .int .i64 o.most] 33)).alloc (.cells #[.int .i64 0, .int .i64 0, .slice none 0 0] 28)).alloc (.cells #[.int .i64 0, .int .i64 0, .slice none 0 0] 28)).heap.size := by simp
  generalize (((w.alloc (.cells #[.int .i64 o.kind, .string o.name, .string o.text, .int .i64 o.num, .int .i64 o.most] 33)).alloc (.cells #[.int .i64 0, .int .i64 0, .slice none 0 0] 28)).alloc (.cells #[.int .i64 0, .int .i64 0, .slice none 0 0] 28)) = wA at kA hA hb7 hb6 zA ⊢
  refine (queues_any F wA g S hA HGL.out HND.out).mono ?_
  rintro e w1 ⟨v, ps, rfl, hr, hqs, hmap, hbl⟩
  obtain ⟨A1, c1, rfl⟩ := hr.form
  have k1 : Keep (fun _ => False) w w1 := kA.trans (Keep.of_below (M := fun _ => False) hbl) (fun _ _ h => h)
  have zbl := hbl.size
  have h7 := (hbl.block (w.heap.size + 1 + 1) (by omega)).trans hb7
  have h6 := (hbl.block (w.heap.size + 1) (by omega)).trans hb6
  have HZ := Lib.hid zA
  obtain ⟨b7, hb7e⟩ : ∃ b7, w.heap.size + 1 + 1 = b7 := ⟨_, rfl⟩
  obtain ⟨b6, hb6e⟩ : ∃ b6, w.heap.size + 1 = b6 := ⟨_, rfl⟩
  have hmap2 : (listQ S).map (·.name) = ps.map (·.1.name) := by
    rw [← hmap, List.map_map]
    exact List.map_congr_left (fun p hp => (hqs.1 p hp).1.symm)
  have hlen : (listQ S).length = ps.length := by rw [← hmap]; simp
  have hl8 : ps.length ≤ 8 := by rw [← hlen, listQ, srtK_length]; exact queuesUp_len S 8
  have HMAP := Lib.hid hmap2
  have HLEN := Lib.hid hlen
  rw [hb7e] at h7 ⊢
  rw [hb6e] at h6 ⊢
  have HB7 := Lib.hid hb7e
  have HB6 := Lib.hid hb6e
  have h67 : b6 ≠ b7 := by omega
  have hw6 : w.heap.size < b6 := by omega
  have hw7 : w.heap.size < b7 := by omega
  have hr1 : Row (Made w w1) w1 118 4 (.slice A1 ps.length c1) ps.length (ps.flatMap encP) := hr.mono (fun b hb hl => ⟨by have := hb.1; omega, hl⟩)
  clear zA hb7e hb6e hb7 hb6 hmap hmap2 hlen hA h kA hqs hr
  go_wp2_with fail
  go_loopw [13] (fun u wr => ∃ (k : Nat) (A : Option Addr) (c : Nat), k ≤ ps.length ∧ u = .int .i64 k ∧ wr.heap[b7]? = some (.cells #[.int .i64 0, .int .i64 0, .slice A k c] 28 (0, 0)) ∧ Row (Made w wr) wr 9 1 (.slice A k c) k (textsV ((ps.map (·.1.name)).take k)) ∧
    Row (Made w wr) wr 118 4 (.slice A1 ps.length c1) ps.length (ps.flatMap encP) ∧ wr.heap[b6]? = some (.cells #[.int .i64 0, .int .i64 0, .slice none 0 0] 28 (0, 0)) ∧ Keep (fun _ => False) w wr) (fun u _ => ps.length - (intOf u).toNat)
  case atStart => exact ⟨0, none, 0, Nat.zero_le _, rfl, h7, Row.nil _ _ _ _, hr1, h6, k1⟩
  case round =>
    clear h7 hr1 h6 k1
    obtain ⟨k, A, c, hkl, rfl, h7, hrs, hrq, h6, hk⟩ := hrel
    have ⟨cc7, ff7⟩ := cells_of_heap h7
    have ⟨cc6, ff6⟩ := cells_of_heap h6
    have z7 := lt_of_heap h7
    have z6 := lt_of_heap h6
    by_cases hlt : k < ps.length
    · obtain ⟨gq, gc, eA, hgc, _⟩ := hrq.pos (by omega)
      simp only [Value.slice.injEq] at eA
      obtain ⟨rfl, _, rfl⟩ := eA
      have hce : ∀ j u, j < 4 → (encP ps[k])[j]? = some u → wr.cell? ⟨gq, k * 4 + j, none⟩ = some u := by
        intro j u hj hu
        have := hrq.1.cells (g := gq) rfl (k * 4 + j) u (by rw [encP_get ps k j hlt hj]; exact hu)
        simpa [Src.add_lit] using this
      have q0 : wr.cell? ⟨gq, k * 4, none⟩ = some (.string ps[k].1.name) := hce 0 _ (by omega) rfl
      have q1 : wr.cell? ⟨gq, k * 4 + 1, none⟩ = some (.int .i64 ps[k].1.first) := hce 1 _ (by omega) rfl
      have q2 : wr.cell? ⟨gq, k * 4 + 2, none⟩ = some ps[k].1.it := hce 2 _ (by omega) rfl
      have q3 : wr.cell? ⟨gq, k * 4 + 3, none⟩ = some ps[k].1.gr := hce 3 _ (by omega) rfl
      have htk : (ps.map (·.1.name)).take (k + 1) = (ps.map (·.1.name)).take k ++ [ps[k].1.name] := by
        rw [List.take_succ_eq_append_getElem (by simpa using hlt)]; simp
      have HTK := Lib.hid htk
      clear htk hce
      unfold RQ.it at q2
      unfold RQ.gr at q3
      generalize ps[k].1.name = nm at q0 HTK
      generalize ps[k].1.first = fi at q1
      generalize ps[k].1.itA = iA at q2
      generalize ps[k].1.itn = iN at q2
      generalize ps[k].1.itc = iC at q2
      generalize ps[k].1.grA = gA at q3
      generalize ps[k].1.grn = gN at q3
      generalize ps[k].1.grc = gC at q3
      go_wp2_with (at_builtin; refine wpList_app rfl _ _ 26 rfl 9 i0 (.string ⟨#[]⟩) 1 16 Try.underlying26 hi0 iz0 iz1 iz2 rfl (by decide) ((hrs.alloc _).alloc _) (Src.oneAt _ nm _ (wr.heap.size + 1) (by simp)) rfl rfl ?c1 ?c2 ?_)
      case c1 => unfold maxLen; omega
      case c2 => omega
      intro A' c' w3 hown hgr
      have k3 : Keep (fun b => (Value.slice A k c).ownBlock = some b) wr w3 := (((Keep.refl _ wr).alloc _).alloc _).grown hgr (fun b hb => .inl hb)
      have h73 := k3.heap h7 (hrs.ne_block h7 (by decide))
      have h63 := k3.heap h6 (hrs.ne_block h6 (by decide))
      have hrq3 := hrq.keepRow hrs (by decide) k3
      have zs3 := k3.size
      have hkw3 := hk.trans k3 (fun b hb h => by have := (hrs.2 b h).1; omega)
      have ⟨cc73, ff73⟩ := cells_of_heap h73
      go_wp2
      go_roundw
      case rel =>
        have hz9 : (w3.setCell ⟨b7, 2, none⟩ (.slice A' (k + 1) c')).heap.size = w3.heap.size := hp_size_set
        have hn1 := hown.ne_block h73 (by decide)
        have hn2 := hrq3.ne_block h73 (by decide)
        refine ⟨k + 1, A', c', by omega, by go_num, by rw [heap_setCell h73]; rfl, ?_, ?_, by rw [hp_set_other h67]; exact h63, hkw3.setCell (a := ⟨b7, 2, none⟩) (.inr (by simp; omega)) _⟩
        · rw [HTK.out, textsV_append]
          refine ⟨((Keep.refl (fun b => b = b7) w3).setCell (a := ⟨b7, 2, none⟩) (.inl rfl) _).row hown.1 (fun b hb e => hn1 (e ▸ hb)), fun b hb => ?_⟩
          have hbl := (hown.1.lt b hb).2
          rcases hown.2 b hb with h | h
          · exact ⟨h.1, by omega⟩
          · exact ⟨by have := h.1; simp at this; omega, by omega⟩
        · refine ⟨((Keep.refl (fun b => b = b7) w3).setCell (a := ⟨b7, 2, none⟩) (.inl rfl) _).row hrq3.1 (fun b hb e => hn2 (e ▸ hb)), fun b hb => ?_⟩
          have hbl := (hrq3.1.lt b hb).2
          exact ⟨(hrq3.2 b hb).1, by omega⟩
      case measure => simp [intOf]; omega
    · obtain rfl : k = ps.length := by omega
      go_wp2
      have hn6 := hrs.ne_block h6 (by decide)
      refine bodyPost_ret (v := .agg #[.int .i64 0, .int .i64 0, .slice A ps.length c]) (by simp [results, Try.results81, go_sem, cc6]) rfl ⟨_, rfl, ?_, ?_⟩
      · rw [HMAP.out, HLEN.out]
        rw [show (ps.map (·.1.name)).take ps.length = ps.map (·.1.name) from List.take_of_length_le (by simp)] at hrs
        refine ⟨Keep.row (M := fun b => b = b6) ?_ hrs.1 (fun b hb e => hn6 (e ▸ hb)), fun b hb => ⟨(hrs.2 b hb).1, by have := (hrs.1.lt b hb).2; simpa [hp_size_set] using this⟩⟩
        (repeat (first | with_reducible exact Keep.refl _ _ | with_reducible exact hk1 _ | with_reducible exact hk2 | with_reducible refine Keep.drew ?_ | with_reducible refine Keep.alloc ?_ _ | with_reducible refine Keep.setCell ?_ (by first | exact Or.inl (Or.inl rfl) | exact Or.inl (Or.inr rfl) | exact Or.inl rfl | (right; simp; done) | (right; simp; omega) | (right; omega)) _))
      · refine Keep.below (M := fun _ => False) ?_ (fun _ _ h => h)
        (repeat (first | with_reducible exact Keep.refl _ _ | with_reducible exact hk1 _ | with_reducible exact hk2 | with_reducible refine Keep.drew ?_ | with_reducible refine Keep.alloc ?_ _ | with_reducible refine Keep.setCell ?_ (by first | exact Or.inl (Or.inl rfl) | exact Or.inl (Or.inr rfl) | exact Or.inl rfl | (right; simp; done) | (right; simp; omega) | (right; omega)) _))
        exact hk
end Go.Proofs.Ytfahakmnlmlgcaa
