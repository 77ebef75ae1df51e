/-
  The contract of Slot: a slot as bytes.
-/
import Derived.Test.YtfahakmnlmlgcaaShelfK
import Derived.Test.YtfahakmnlmlgcaaBits
namespace Go.Proofs.Ytfahakmnlmlgcaa
open Go.RowKit Go.Lib
set_option linter.unusedVariables false
set_option linter.unusedSimpArgs false

def tb (s : ByteArray) : List UInt8 := varint s.size ++ s.data.toList
def gb (p : ByteArray × Nat) : List UInt8 := tb p.1 ++ varint p.2
/-- A slot as bytes. -/
def slotB : Option Qu → List UInt8
  | none => []
  | some q => tb q.name ++ varint q.first ++ varint q.items.length ++ q.items.flatMap tb ++ varint q.groups.length ++ (srtK (·.1) q.groups).flatMap gb

/-- What is so of every queue that a shelf holds. -/
structure QuOK (q : Qu) : Prop where
  name : 1 ≤ q.name.size ∧ q.name.size ≤ 16
  fin : q.first + q.items.length ≤ 1099511627776
  len : q.items.length ≤ 32
  items : ∀ t ∈ q.items, t.size ≤ 64
  glen : q.groups.length ≤ 4
  groups : ∀ p ∈ q.groups, (1 ≤ p.1.size ∧ p.1.size ≤ 16) ∧ q.first ≤ p.2 ∧ p.2 ≤ q.first + q.items.length
  nodup : (q.groups.map (·.1)).Nodup

theorem tb_len (s : ByteArray) (h : s.size ≤ 1000) : (tb s).length ≤ s.size + 10 := by
  have := varint_len10 (x := s.size) (by unfold In64; omega)
  have e : s.data.toList.length = s.size := rfl
  simp only [tb, List.length_append, e]; omega
theorem flat_len {α : Type} (f : α → List UInt8) (c : Nat) : ∀ l : List α, (∀ x ∈ l, (f x).length ≤ c) → (l.flatMap f).length ≤ l.length * c
  | [], _ => by simp
  | x :: l, h => by
    have h1 := h x (by simp)
    have h2 := flat_len f c l (fun y hy => h y (by simp [hy]))
    rw [List.flatMap_cons, List.length_append, List.length_cons, Nat.add_mul]; omega

section steps
variable {F : Nat → Prop} {w0 w : World} {g : Nat} {l : List UInt8}
theorem wstep {w' : World} {b : Bool} (hk : Keep F w0 w) (h1 : WriterAt (Grow (Grow F w0 w) w w') w' g l b) (h2 : Keep (Grow F w0 w) w w') : WriterAt (Grow F w0 w') w' g l b ∧ Keep F w0 w' := by
  have := hk.size
  have := h2.size
  refine ⟨h1.mono (fun k hk9 _ => ?_), hk.trans h2 (fun k hk9 h => h.elim id (fun h => by omega))⟩
  rcases hk9 with (h | h) | h
  · exact .inl h
  · exact .inr ⟨h.1, by omega⟩
  · exact .inr ⟨by omega, h.2⟩
theorem textM (hk : Keep F w0 w) (h : WriterAt (Grow F w0 w) w g l false) (s : ByteArray) (hs : s.size ≤ 1000000000) (hl : l.length ≤ 1000000000) :
    Calls Try.prog 61 #[.pointer (some ⟨g, 0, none⟩), .string s] w fun e w' => e = .returned (.tuple #[]) ∧ WriterAt (Grow F w0 w') w' g (l ++ tb s) false ∧ Keep F w0 w' := by
  refine (text_any _ w g l s h hs hl).mono ?_
  rintro e w' ⟨rfl, h1, h2⟩
  rw [List.append_assoc] at h1
  exact ⟨rfl, wstep hk h1 h2⟩
theorem numM (hk : Keep F w0 w) (h : WriterAt (Grow F w0 w) w g l false) (n : Nat) (hn : n ≤ 9223372036854775807) (hl : l.length ≤ 1000000000) :
    Calls Try.prog 28 #[.pointer (some ⟨g, 0, none⟩), .int .i64 n] w fun e w' => e = .returned (.tuple #[]) ∧ WriterAt (Grow F w0 w') w' g (l ++ varint n) false ∧ Keep F w0 w' := by
  refine (num_any _ w g l n h hn hl).mono ?_
  rintro e w' ⟨rfl, h1, h2⟩
  exact ⟨rfl, wstep hk h1 h2⟩
end steps

theorem groupsV_get : ∀ (l : List (ByteArray × Nat)) (k : Nat) (h : k < l.length), (groupsV l)[k * 2]? = some (.string l[k].1) ∧ (groupsV l)[k * 2 + 1]? = some (.int .i64 l[k].2)
  | x :: l, 0, _ => by simp [groupsV]
  | x :: l, k + 1, h => by
    have := groupsV_get l k (by simpa using h)
    have e : groupsV (x :: l) = .string x.1 :: .int .i64 x.2 :: groupsV l := rfl
    rw [e, show (k + 1) * 2 = k * 2 + 1 + 1 by omega, show k * 2 + 1 + 1 + 1 = (k * 2 + 1) + 1 + 1 by omega]
    simpa using this

theorem slot_none (F : Nat → Prop) (w : World) (g : Nat) (i : Int) (S : Nat → Option Qu) (h : ShelfAt F w g S) (hi : i < 0 ∨ 8 ≤ i ∨ S i.toNat = none) :
    Calls Try.prog 46 #[.pointer (some ⟨g, 0, none⟩), .int .i64 i] w fun e w' => e = .returned (.slice none 0 0) ∧ w = w' := by
  by_cases h1 : i < 0
  · go_enter Try.func46, Try.ntmps46
    go_wp2
    go_ret
    exact ⟨rfl, rfl⟩
  · by_cases h2 : 8 ≤ i
    · go_enter Try.func46, Try.ntmps46
      go_wp2
      go_ret
      exact ⟨rfl, rfl⟩
    · obtain ⟨j, rfl⟩ : ∃ j : Nat, i = j := ⟨i.toNat, by omega⟩
      have h3 : S j = none := by
        rcases hi with hi | hi | hi
        · omega
        · omega
        · simpa using hi
      obtain ⟨cs, s, hc, hf, c0, c1, c2, c3, c4, hs⟩ := h.slot j (by omega)
      rw [h3] at hs
      obtain rfl : s = SC.zero := hs
      simp only [SC.zero] at c0
      have hg := h.lt
      have h2' : (j : Int) < 8 := by omega
      go_enter Try.func46, Try.ntmps46
      go_wp2
      go_ret
      exact ⟨rfl, rfl⟩

set_option maxRecDepth 100000 in
set_option maxHeartbeats 1000000 in
theorem slot_some (F : Nat → Prop) (w : World) (g i : Nat) (S : Nat → Option Qu) (q : Qu) (h : ShelfAt F w g S) (hi : i < 8) (hq : S i = some q) (ok : QuOK q) :
    Calls Try.prog 46 #[.pointer (some ⟨g, 0, none⟩), .int .i64 i] w fun e w' => ∃ v, e = .returned v ∧ Row (Made w w') w' 5 1 v (slotB (some q)).length (bytesV (slotB (some q))) ∧ Below w.heap.size w w' := by
  have hg := h.lt
  obtain ⟨cs, s, G, hh, hz, h0, h1, h2, h3, h4, hs, hF, hG, back⟩ := h.focus i hi
  have ⟨hc, hf⟩ := cells_of_heap hh
  rw [hq] at hs
  obtain ⟨s1, s2, s3, s4, s5, b, s6, s7, s8⟩ := hs
  have hi' : (i : Int) < 8 := by omega
  have hi0 : (0 : Int) ≤ i := by omega
  rw [s6] at h4
  rw [s1] at h0
  rw [s2] at h1
  rw [s3] at h2
  clear back s1 s2 s3 s6
  obtain ⟨su, snm, sf, sA, sn, sc, sm⟩ := s
  obtain ⟨qn, qf, qi, qg⟩ := q
  simp only at *
  subst s4
  go_enter Try.func46, Try.ntmps46
  go_wp2_with fail
  have kA : Keep (fun _ => False) w (w.alloc (.cells #[.bool true, .string qn, .int .i64 qf, .slice sA qi.length sc, .map (some b)] 86)) := (Keep.refl _ w).alloc _
  have hbox := heap_alloc_new w (.cells #[.bool true, .string qn, .int .i64 qf, .slice sA qi.length sc, .map (some b)] 86)
  have hzA : (w.alloc (.cells #[.bool true, .string qn, .int .i64 qf, .slice sA qi.length sc, .map (some b)] 86)).heap.size = w.heap.size + 1 := by simp
  have r0 : Row G (w.alloc (.cells #[.bool true, .string qn, .int .i64 qf, .slice sA qi.length sc, .map (some b)] 86)) 9 1 (.slice sA qi.length sc) qi.length (textsV qi) := s5.alloc _
  have m0 := s8.same (w' := w.alloc (.cells #[.bool true, .string qn, .int .i64 qf, .slice sA qi.length sc, .map (some b)] 86)) (hp_alloc_lt s8.lt _)
  clear hc hf hh h0 h1 h2 h3 h4 s5 s8 h hG
  generalize (w.alloc (.cells #[.bool true, .string qn, .int .i64 qf, .slice sA qi.length sc, .map (some b)] 86)) = w0 at kA hbox hzA r0 m0 ⊢
  obtain ⟨bx, hbx⟩ : ∃ bx, w.heap.size = bx := ⟨_, rfl⟩
  rw [hbx] at hbox ⊢
  have hzA := Lib.hid hzA
  have hbx := Lib.hid hbx
  refine (new_writer _).mono ?_
  rintro e w1 ⟨rfl, rfl⟩
  have hw : WriterAt (Grow (fun _ => False) w0 (w0.alloc (.cells #[.slice none 0 0, .bool false] 107 (0, 0)))) (w0.alloc (.cells #[.slice none 0 0, .bool false] 107 (0, 0))) w0.heap.size [] false :=
    ⟨.inr ⟨Nat.le_refl _, by simp⟩, none, 0, heap_alloc_new _ _, Row.nil _ _ _ _⟩
  have hk : Keep (fun _ => False) w0 (w0.alloc (.cells #[.slice none 0 0, .bool false] 107 (0, 0))) := (Keep.refl _ w0).alloc _
  generalize w0.heap.size = gw at hw ⊢
  generalize (w0.alloc (.cells #[.slice none 0 0, .bool false] 107 (0, 0))) = w1 at hw hk ⊢
  have ok1 := ok.name
  have ok2 := ok.fin
  have ok3 := ok.len
  have ok4 := ok.glen
  simp only at ok1 ok2 ok3 ok4
  have ⟨cx, fx⟩ := cells_of_heap (hk.heap hbox (fun h => h))
  go_wp2_with fail
  refine (textM hk hw qn (by omega) (by simp)).mono ?_
  clear hk hw cx fx
  rintro e w2 ⟨rfl, hw, hk⟩
  have ⟨cx, fx⟩ := cells_of_heap (hk.heap hbox (fun h => h))
  go_wp2_with fail
  refine (numM hk hw qf (by omega) (by have := tb_len qn (by omega); simp; omega)).mono ?_
  clear hk hw cx fx
  rintro e w3 ⟨rfl, hw, hk⟩
  have ⟨cx, fx⟩ := cells_of_heap (hk.heap hbox (fun h => h))
  go_wp2_with fail
  have l3 : (([] ++ tb qn) ++ varint qf).length ≤ 40 := by
    have := tb_len qn (by omega)
    have := varint_len10 (x := qf) (by unfold In64; omega)
    simp; omega
  refine (numM hk hw qi.length (by omega) (by omega)).mono ?_
  clear hk hw cx fx
  rintro e w4 ⟨rfl, hw, hk⟩
  have ⟨cx, fx⟩ := cells_of_heap (hk.heap hbox (fun h => h))
  have l4 : (([] ++ tb qn) ++ varint qf ++ varint qi.length).length ≤ 50 := by
    have := varint_len10 (x := qi.length) (by unfold In64; omega)
    rw [List.length_append]; omega
  obtain ⟨l0, hl0⟩ : ∃ l0, ([] ++ tb qn) ++ varint qf ++ varint qi.length = l0 := ⟨_, rfl⟩
  rw [hl0] at hw l4
  have HL0 := Lib.hid hl0
  clear hl0 l3
  go_wp2_with fail
  have hit : ∀ k, k ≤ qi.length → (l0 ++ (qi.take k).flatMap tb).length ≤ 3000 := by
    intro k hk9
    have := flat_len tb 74 (qi.take k) (fun x hx => by
      have h9 := ok.items x (List.mem_of_mem_take hx)
      have := tb_len x (by omega)
      omega)
    rw [List.length_append]
    have h8 : (qi.take k).length ≤ 32 := by simp; omega
    omega
  have hit := Lib.hid hit
  go_loopw [52] (fun u wr => ∃ k : Nat, k ≤ qi.length ∧ u = .int .i64 k ∧ WriterAt (Grow (fun _ => False) w0 wr) wr gw (l0 ++ (qi.take k).flatMap tb) false ∧ Keep (fun _ => False) w0 wr) (fun u _ => qi.length - (intOf u).toNat)
  case atStart => exact ⟨0, Nat.zero_le _, rfl, by simpa using hw, hk⟩
  case round =>
    clear hk hw cx fx
    obtain ⟨k, hkl, rfl, hw, hk⟩ := hrel
    have ⟨cx, fx⟩ := cells_of_heap (hk.heap hbox (fun h => h))
    have hlen := Lib.hid (hit.out k hkl)
    by_cases hlt : k < qi.length
    · have rr := r0.keep hk (fun _ _ h => h)
      obtain ⟨ab, ac, eA, hac, _⟩ := rr.pos (by omega)
      simp only [Value.slice.injEq] at eA
      obtain ⟨rfl, _, rfl⟩ := eA
      have ck : wr.cell? ⟨ab, k, none⟩ = some (.string qi[k]) := by
        have := rr.1.cells (g := ab) rfl k (.string qi[k]) (by simp [textsV, hlt])
        simpa [Src.add_lit] using this
      have hsz : qi[k].size ≤ 64 := ok.items _ (List.getElem_mem hlt)
      have htk : qi.take (k + 1) = qi.take k ++ [qi[k]] := by simp
      have htk := Lib.hid htk
      go_wp2_with fail
      refine (textM hk hw qi[k] (by omega) (by have := hlen.out; omega)).mono ?_
      clear hk hw cx fx
      rintro e w5 ⟨rfl, hw, hk⟩
      have ⟨cx, fx⟩ := cells_of_heap (hk.heap hbox (fun h => h))
      go_wp2
      go_roundw
      case rel =>
        refine ⟨k + 1, by omega, by go_num, ?_, hk⟩
        rw [htk.out, List.flatMap_append, ← List.append_assoc]
        simpa using hw
      case measure => simp [intOf]; omega
    · obtain rfl : k = qi.length := by omega
      have hlen := hlen.out
      rw [List.take_length] at hw hlen
      obtain ⟨l1, hl1⟩ : ∃ l1, l0 ++ qi.flatMap tb = l1 := ⟨_, rfl⟩
      rw [hl1] at hw hlen
      have HL1 := Lib.hid hl1
      clear hl1
      have mr := m0.keep hk (fun h => h)
      go_wp2_with (at_len; refine wpList_mlen (by rfl) _ rfl Try.underlying84 mr rfl ?_)
      refine (numM hk hw qg.length (by omega) (by omega)).mono ?_
      clear hk hw cx fx mr
      rintro e w5 ⟨rfl, hw, hk⟩
      have ⟨cx, fx⟩ := cells_of_heap (hk.heap hbox (fun h => h))
      have mr := m0.keep hk (fun h => h)
      have hlen2 : (l1 ++ varint qg.length).length ≤ 3010 := by
        have := varint_len10 (x := qg.length) (by unfold In64; omega)
        rw [List.length_append]; omega
      obtain ⟨l2, hl2⟩ : ∃ l2, l1 ++ varint qg.length = l2 := ⟨_, rfl⟩
      rw [hl2] at hw hlen2
      have HL2 := Lib.hid hl2
      clear hl2
      go_wp2_with fail
      refine (sgroups_any w5 _ _ _ _ _ b _ qg mr (by omega)).mono ?_
      rintro e w6 ⟨v, rfl, hrg, hb6⟩
      clear cx fx mr
      obtain ⟨A2, c2, rfl⟩ := hrg.form
      have hw6 : WriterAt (Grow (Grow (fun _ => False) w0 w5) w6 w6) w6 gw l2 false := (hw.keep (Keep.of_below (M := fun _ => False) hb6) (fun _ _ h => h)).mono (fun k hk _ => .inl hk)
      have hk6 : Keep (fun _ => False) w0 w6 := hk.trans (Keep.of_below (M := fun _ => False) hb6) (fun _ _ h => h)
      have hsl : (srtK (·.1) qg).length = qg.length := srtK_length _ _
      have hsm : ∀ p ∈ srtK (·.1) qg, p.1.size ≤ 16 ∧ p.2 ≤ 1099511627776 := by
        intro p hp
        have := ok.groups p ((srtK_perm (·.1) qg).mem_iff.1 hp)
        simp only at this
        omega
      obtain ⟨sg, hsg⟩ : ∃ sg, srtK (·.1) qg = sg := ⟨_, rfl⟩
      rw [hsg] at hrg hsl hsm
      have HSG := Lib.hid hsg
      have HSL := Lib.hid hsl
      clear hsg hsl
      have ⟨cx, fx⟩ := cells_of_heap (hk6.heap hbox (fun h => h))
      go_wp2_with fail
      have hgt : ∀ k, k ≤ qg.length → (l2 ++ (sg.take k).flatMap gb).length ≤ 4000 := by
        intro k hk9
        have := flat_len gb 40 (sg.take k) (fun x hx => by
          have h9 := hsm x (List.mem_of_mem_take hx)
          have := tb_len x.1 (by omega)
          have := varint_len10 (x := x.2) (by unfold In64; omega)
          rw [gb, List.length_append]; omega)
        rw [List.length_append]
        have h8 : (sg.take k).length ≤ 4 := by simp; omega
        omega
      have hgt := Lib.hid hgt
      clear cx fx hw
      have hk66 : Keep (Grow (fun _ => False) w0 w5) w6 w6 := Keep.refl _ _
      go_loopw [68] (fun u wr => ∃ k : Nat, k ≤ qg.length ∧ u = .int .i64 k ∧ WriterAt (Grow (Grow (fun _ => False) w0 w5) w6 wr) wr gw (l2 ++ (sg.take k).flatMap gb) false ∧ Keep (Grow (fun _ => False) w0 w5) w6 wr) (fun u _ => qg.length - (intOf u).toNat)
      case atStart => exact ⟨0, Nat.zero_le _, rfl, by simpa using hw6, hk66⟩
      case round =>
        clear hw6 hk66
        obtain ⟨k, hkl, rfl, hw, hkr⟩ := hrel
        have hlen := Lib.hid (hgt.out k hkl)
        by_cases hlt : k < qg.length
        · have rr := hrg.keep hkr (fun k hk h => by
            have h1 := hk.1
            rcases h with h | h
            · exact h
            · have := h.2; omega)
          obtain ⟨gg, gc, eA, hgc, _⟩ := rr.pos (by omega)
          simp only [Value.slice.injEq] at eA
          obtain ⟨rfl, _, rfl⟩ := eA
          have hlt2 : k < sg.length := by have := HSL.out; omega
          obtain ⟨⟨p1, p2⟩, hp⟩ : ∃ p, sg[k] = p := ⟨_, rfl⟩
          have hpm := hsm _ (List.getElem_mem hlt2)
          have hcg := groupsV_get sg k hlt2
          have htk : sg.take (k + 1) = sg.take k ++ [sg[k]] := by simp
          rw [hp] at hpm hcg htk
          have htk := Lib.hid htk
          simp only at hpm hcg
          have ck0 : wr.cell? ⟨gg, k * 2, none⟩ = some (.string p1) := by
            have := rr.1.cells (g := gg) rfl (k * 2) _ hcg.1
            simpa [Src.add_lit] using this
          have ck1 : wr.cell? ⟨gg, k * 2 + 1, none⟩ = some (.int .i64 p2) := by
            have := rr.1.cells (g := gg) rfl (k * 2 + 1) _ hcg.2
            simpa [Src.add_lit] using this
          clear hcg hp
          go_wp2_with fail
          have hwA : WriterAt (Grow (Grow (Grow (fun _ => False) w0 w5) w6 wr) (wr.alloc (.cells #[.string p1, .int .i64 p2] 99)) (wr.alloc (.cells #[.string p1, .int .i64 p2] 99))) (wr.alloc (.cells #[.string p1, .int .i64 p2] 99)) gw (l2 ++ (sg.take k).flatMap gb) false :=
            (hw.keep ((Keep.refl (fun _ => False) wr).alloc _) (fun _ _ h => h)).mono (fun k hk _ => .inl hk)
          have hbx2 := heap_alloc_new wr (.cells #[.string p1, .int .i64 p2] 99)
          have hnb : ¬ Grow (Grow (fun _ => False) w0 w5) w6 wr wr.heap.size := by
            rintro (h | h)
            · rcases h with h | h
              · exact h
              · have h9 := h.2
                have := hb6.size
                have := hkr.size
                omega
            · have := h.2; omega
          have hkA : Keep (fun _ => False) wr (wr.alloc (.cells #[.string p1, .int .i64 p2] 99)) := (Keep.refl _ wr).alloc _
          have hzr : wr.heap.size ≤ (wr.alloc (.cells #[.string p1, .int .i64 p2] 99)).heap.size := by simp
          generalize (wr.alloc (.cells #[.string p1, .int .i64 p2] 99)) = wA at hwA hbx2 hkA hzr ⊢
          obtain ⟨b2, hb2⟩ : ∃ b2, wr.heap.size = b2 := ⟨_, rfl⟩
          rw [hb2] at hbx2 hnb ⊢
          have hb2 := Lib.hid hb2
          clear ck0 ck1 rr
          refine (textM (Keep.refl _ wA) hwA p1 (by omega) (by have := hlen.out; omega)).mono ?_
          rintro e w7 ⟨rfl, hw7, hk7⟩
          have ⟨cx, fx⟩ := cells_of_heap (hk7.heap hbx2 hnb)
          go_wp2_with fail
          refine (numM hk7 hw7 p2 (by omega) (by have := hlen.out; have := tb_len p1 (by omega); rw [List.length_append]; omega)).mono ?_
          clear hk7 hw7 cx fx
          rintro e w8 ⟨rfl, hw8, hk8⟩
          have ⟨cx, fx⟩ := cells_of_heap (hk8.heap hbx2 hnb)
          go_wp2
          go_roundw
          case rel =>
            have hs8 := hk8.size
            have hsr := hkr.size
            refine ⟨k + 1, by omega, by go_num, ?_, ?_⟩
            · rw [htk.out, List.flatMap_append, ← List.append_assoc]
              refine WriterAt.mono (F := Grow (Grow (Grow (fun _ => False) w0 w5) w6 wr) wA w8) (by simpa [gb] using hw8) (fun k hk _ => ?_)
              rcases hk with (h | h) | h
              · exact .inl h
              · exact .inr ⟨h.1, by have := h.2; omega⟩
              · exact .inr ⟨by have := h.1; omega, h.2⟩
            · refine (hkr.trans hkA (fun _ _ h => h.elim)).trans hk8 (fun k hk h => ?_)
              rcases h with h | h
              · exact h
              · have := h.1; omega
          case measure => simp [intOf]; omega
        · obtain rfl : k = qg.length := by omega
          have hlen := hlen.out
          rw [← HSL.out, List.take_length] at hw hlen
          obtain ⟨l3, hl3⟩ : ∃ l3, l2 ++ sg.flatMap gb = l3 := ⟨_, rfl⟩
          rw [hl3] at hw hlen
          have HL3 := Lib.hid hl3
          clear hl3
          go_wp2_with fail
          refine (done_any _ wr gw l3 hw (by omega)).mono ?_
          rintro e w9 ⟨v, rfl, hr9, hne, hb9⟩
          go_wp2
          go_ret
          have hkw : Keep (fun _ => False) w w9 := by
            have ha := kA.trans hk6 (fun _ _ h => h)
            have hsz6 := hb6.size
            have hsz0 := hk.size
            have hszA := hzA.out
            refine (ha.trans hkr (fun k hk h => ?_)).trans (Keep.of_below (M := fun _ => False) hb9) (fun _ _ h => h)
            rcases h with h | h
            · exact h
            · have := h.1; omega
          have hszw : w.heap.size ≤ wr.heap.size := by
            have := kA.size; have := hk6.size; have := hkr.size; omega
          have hfin : slotB (some ⟨qn, qf, qi, qg⟩) = l3 := by
            simp only [slotB]
            rw [HSG.out, ← HL3.out, ← HL2.out, ← HL1.out, ← HL0.out]
            simp
          rw [hfin]
          exact ⟨v, rfl, hr9.mono (fun k hk hl => ⟨by have := hk.1; omega, hl⟩), hkw.below (fun _ _ h => h)⟩
end Go.Proofs.Ytfahakmnlmlgcaa
