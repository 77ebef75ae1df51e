/-
  What Ask answers.
-/
import Derived.Test.YtfahakmnlmlgcaaKeepsP
import Derived.Test.YtfahakmnlmlgcaaShelfB
import Derived.Test.YtfahakmnlmlgcaaSame
import Derived.Test.YtfahakmnlmlgcaaShown
namespace Go.Proofs.Ytfahakmnlmlgcaa
open Go.RowKit Go.Lib
set_option linter.unusedVariables false
set_option linter.unusedSimpArgs false

theorem act_query (S : Nat → Option Qu) (i : Nat) (o : OpS) (h : 6 ≤ o.kind ∧ o.kind ≤ 8) : (act S i o).2 = S := by
  unfold act
  rw [if_neg (by omega)]
  by_cases k8 : o.kind = 8
  · rw [if_pos k8]
  rw [if_neg k8]
  cases hq : S i with
  | none => rfl
  | some q =>
    simp only
    rw [if_neg (by omega), if_neg (by omega), if_neg (by omega), if_neg (by omega)]
    (repeat' split) <;> rfl

/-- A question changes nothing. -/
theorem doS_query (S : Nat → Option Qu) (o : OpS) (h : 6 ≤ o.kind ∧ o.kind ≤ 8) : (doS S o).S = S := by
  unfold doS
  by_cases hc : checkS o ≠ 0
  · rw [if_pos hc]
  rw [if_neg hc]
  by_cases k8 : o.kind = 8
  · rw [if_pos k8]
  rw [if_neg k8]
  cases hf : firstK (isQ S o.name) with
  | some i =>
    simp only
    rw [if_neg (by omega)]
    exact act_query S i o h
  | none =>
    simp only
    rw [if_neg (by omega)]

theorem doS_err (S : Nat → Option Qu) (o : OpS) (h : checkS o ≠ 0) : doS S o = ⟨⟨0, 0, []⟩, 0, checkS o, S⟩ := by rw [doS, if_pos h]

/-- An answer of Ask. -/
def askS (S : Nat → Option Qu) (o : OpS) : Res × Int :=
  if checkS o ≠ 0 then (⟨0, 0, []⟩, checkS o) else if 6 ≤ o.kind ∧ o.kind ≤ 8 then ((doS S o).r, 0) else (⟨0, 0, []⟩, 56)

/-- What a call of Ask leaves. -/
def AskedP (F : Nat → Prop) (w : World) (g : Nat) (S : Nat → Option Qu) (a : Res × Int) (e : Ending) (w' : World) : Prop :=
  ∃ A c F', e = .returned (.tuple #[.agg #[.int .i64 a.1.code, .int .i64 a.1.num, .slice A a.1.items.length c], .int .i64 a.2]) ∧
      Row (Made w w') w' 9 1 (.slice A a.1.items.length c) a.1.items.length (textsV a.1.items) ∧ ShelfAt F' w' g S ∧ (∀ k, F' k → F k ∨ (Made w w' k ∧ (Value.slice A a.1.items.length c).ownBlock ≠ some k)) ∧ Keep F w w'

theorem asked_same {F : Nat → Prop} {w w' : World} {g : Nat} {S : Nat → Option Qu} {e : Ending} {er : Int} (h : ShelfAt F w g S) (he : e = .returned (.tuple #[.agg #[.int .i64 0, .int .i64 0, .slice none 0 0], .int .i64 er])) (hb : Below w.heap.size w w') :
    AskedP F w g S (⟨0, 0, []⟩, er) e w' :=
  ⟨none, 0, F, he, Row.nil _ _ _ _, h.keep (Keep.of_below (M := fun _ => False) hb) (fun _ _ h => h), fun k hk => .inl hk, Keep.of_below hb⟩

set_option maxRecDepth 100000 in
set_option maxHeartbeats 1000000 in
theorem ask_any (F0 : Nat → Prop) (w : World) (g : Nat) (S : Nat → Option Qu) (o : OpS) (h0 : ShelfAt F0 w g S) (hG : GoodS S) :
    Calls Try.prog 22 #[.pointer (some ⟨g, 0, none⟩), o.val] w (AskedP F0 w g S (askS S o)) := by
  have h := h0.cut
  obtain ⟨F, hF, hFl⟩ : ∃ F : Nat → Prop, F = (fun k => F0 k ∧ k < w.heap.size) ∧ ∀ k, F k → F0 k ∧ k < w.heap.size := ⟨_, rfl, fun k h => h⟩
  rw [← hF] at h
  clear hF
  have hck := fun W => check_any o W
  by_cases hc : checkS o ≠ 0
  · have hpost : ∀ e w', e = Ending.returned (.tuple #[.agg #[.int .i64 0, .int .i64 0, .slice none 0 0], .int .i64 (checkS o)]) → Below w.heap.size w w' → AskedP F0 w g S (askS S o) e w' := by
      intro e w' he hb
      rw [askS, if_pos hc]
      exact asked_same h0 he hb
    have HP := Lib.hid hpost
    clear hpost
    generalize checkS o = ck at hc hck HP
    have key : Calls Try.prog 22 #[.pointer (some ⟨g, 0, none⟩), o.val] w fun e w' => e = Ending.returned (.tuple #[.agg #[.int .i64 0, .int .i64 0, .slice none 0 0], .int .i64 ck]) ∧ Below w.heap.size w w' := by
      clear HP h h0
      unfold OpS.val at hck ⊢
      go_enter Try.func22, Try.ntmps22
      go_wp2_with (go_at_call 15; refine (hck _).mono ?_; rintro e w1 ⟨rfl, hbl⟩; have hgb := (hbl.block w.heap.size (by first | (simp; done) | (simp; omega) | omega)).trans ((hp_alloc_lt (by simp) _).trans (heap_alloc_new w _)); have ⟨cb, fb⟩ := cells_of_heap hgb; have hgc := (hbl.block (w.heap.size + 1) (by first | (simp; done) | (simp; omega) | omega)).trans (hp_alloc_new (by simp) _); have ⟨cc, fc⟩ := cells_of_heap hgc; have hz1 : w.heap.size + 1 < w1.heap.size := (by have := hbl.size; simp at this; omega); have hk1 : ∀ M, Keep M w w1 := fun M => (((Keep.refl M w).alloc _).alloc _).trans (Keep.of_below hbl) (fun _ _ h => h))
      refine bodyPost_ret (v := .tuple #[.agg #[.int .i64 0, .int .i64 0, .slice none 0 0], .int .i64 ck]) (by simp [results, Try.results22, go_sem, cc, hz1]) rfl ⟨rfl, ?_⟩
      (refine Keep.below (M := fun _ => False) ?_ (fun _ _ h => h)); (repeat (first | with_reducible exact Keep.refl _ _ | with_reducible exact hk1 _ | with_reducible exact hk2 | with_reducible refine Keep.drew ?_ | with_reducible refine Keep.alloc ?_ _ | with_reducible refine Keep.setCell ?_ (by first | exact Or.inl (Or.inl rfl) | exact Or.inl (Or.inr rfl) | exact Or.inl rfl | (right; simp; done) | (right; simp; omega) | (right; omega)) _))
    exact key.mono fun e w' he => HP.out e w' he.1 he.2
  · have hc0 : checkS o = 0 := Decidable.not_not.1 hc
    rw [hc0] at hck
    by_cases hk : 6 ≤ o.kind ∧ o.kind ≤ 8
    · have e1 : askS S o = ((doS S o).r, 0) := by rw [askS, if_neg hc, if_pos hk]
      have e2 := doS_query S o hk
      have e3 := doS_e S o
      rw [hc0] at e3
      have hdo := fun F W h => do_any F W g S o h hG
      rw [e1]
      clear e1 hc hc0
      generalize doS S o = a at hdo e2 e3 ⊢
      obtain ⟨r, k, er, S'⟩ := a
      simp only at e2 e3 hdo ⊢
      subst e2; subst e3
      obtain ⟨kind, nm, tx, num, most⟩ := o
      simp only at hk
      have hq : (decide ((6 : Int) ≤ kind) && decide (kind ≤ 8)) = true := by simp; omega
      have HQ := Lib.hid hq
      have HDO := Lib.hid hdo
      clear hq hdo hk
      unfold OpS.val at hck HDO ⊢
      simp only at hck HDO
      have hg := h.lt
      go_enter Try.func22, Try.ntmps22
      go_wp2_with (first | (go_at_call 15; refine (hck _).mono ?_; rintro e w1 ⟨rfl, hbl⟩; have hgb := (hbl.block w.heap.size (by first | (simp; done) | (simp; omega) | omega)).trans ((hp_alloc_lt (by simp) _).trans (heap_alloc_new w _)); have ⟨cb, fb⟩ := cells_of_heap hgb; have hgc := (hbl.block (w.heap.size + 1) (by first | (simp; done) | (simp; omega) | omega)).trans (hp_alloc_new (by simp) _); have ⟨cc, fc⟩ := cells_of_heap hgc; have hz1 : w.heap.size + 1 < w1.heap.size := (by have := hbl.size; simp at this; omega); have hk1 : ∀ M, Keep M w w1 := fun M => (((Keep.refl M w).alloc _).alloc _).trans (Keep.of_below hbl) (fun _ _ h => h)) | (go_at_call 17; refine (query_any _ _).mono ?_; rintro e w' ⟨rfl, rfl⟩; rw [HQ.out]))
      refine (HDO.out F _ (h.keep (hk1 (fun _ => False)) (fun _ _ h => h))).mono ?_
      rintro e w2 ⟨A2, c2, F2, rfl, r2, s2, f2, k2⟩
      simp only at r2 s2 f2
      have kw1 := hk1 (fun _ => False)
      have z2 := k2.size
      have hr2 := k2.heap hgc (fun h => by have := (hFl _ h).2; omega)
      clear cb fb cc fc hgb hgc hk1
      have hr7 := (hp_alloc_lt (lt_of_heap hr2) (.cells #[.int .i64 r.code, .int .i64 r.num, .slice A2 r.items.length c2] 28)).trans hr2
      obtain ⟨W8, hW8, tW8, kW8, zW8⟩ := set3 (p := .int .i64 r.code) (q := .int .i64 r.num) (r := .slice A2 r.items.length c2) hr7
      have ⟨⟨d0, d1, d2⟩, e0, e1, e2⟩ := cells3 hr7
      have ⟨⟨x0, x1, x2⟩, _, _, _⟩ := cells3 tW8
      have zz8 : W8.heap.size = w2.heap.size + 1 := by rw [zW8]; simp
      have ka : Keep (fun _ => False) w2 (w2.alloc (.cells #[.int .i64 r.code, .int .i64 r.num, .slice A2 r.items.length c2] 28)) := (Keep.refl _ _).alloc _
      have l2 : ∀ k, F2 k → k ≠ w.heap.size + 1 := by
        intro k hk e
        rcases f2 k hk with h | h
        · have := (hFl k h).2; omega
        · have := h.1.1; omega
      have hpost : AskedP F0 w g S' (r, 0) (.returned (.tuple #[.agg #[.int .i64 r.code, .int .i64 r.num, .slice A2 r.items.length c2], .int .i64 0])) W8 := by
        refine ⟨A2, c2, F2, rfl, ?_, (s2.keep ka (fun _ _ h => h)).keep kW8 (fun k hk e => l2 k hk e), fun k hk => ?_, ?_⟩
        · exact ((r2.keep ka (fun _ _ h => h)).keep kW8 (fun k hk e => by have := hk.1; omega)).mono (fun k hk _ => ⟨by have := hk.1; omega, by have := hk.2; omega⟩)
        · rcases f2 k hk with h | h
          · exact .inl (hFl k h).1
          · exact .inr ⟨⟨by have := h.1.1; omega, by have := h.1.2; omega⟩, h.2⟩
        · exact ((kw1.mono (N := F0) (fun _ _ h => h.elim)).trans k2 (fun k _ h => (hFl k h).1) |>.trans ka (fun _ _ h => h.elim)).trans kW8 (fun k hk h => by omega)
      have HP := Lib.hid hpost
      clear hpost l2 ka s2 r2 f2 zz8 zW8 kW8 k2 kw1
      go_wp2_with fail
      have hp := HP.out
      refine bodyPost_ret (v := .tuple #[.agg #[.int .i64 r.code, .int .i64 r.num, .slice A2 r.items.length c2], .int .i64 0]) ?_ rfl hp
      simp [results, Try.results22, go_sem, x0, x1, x2]
    · have e1 : askS S o = (⟨0, 0, []⟩, 56) := by rw [askS, if_neg hc, if_neg hk]
      rw [e1]
      have hq : (decide ((6 : Int) ≤ o.kind) && decide (o.kind ≤ 8)) = false := by
        cases h6 : (decide ((6 : Int) ≤ o.kind) && decide (o.kind ≤ 8)) with
        | false => rfl
        | true => simp at h6; exact absurd h6 hk
      clear e1 hk hc hc0
      obtain ⟨kind, nm, tx, num, most⟩ := o
      simp only at hq
      have HQ := Lib.hid hq
      clear hq
      have key : Calls Try.prog 22 #[.pointer (some ⟨g, 0, none⟩), (OpS.mk kind nm tx num most).val] w fun e w' => e = Ending.returned (.tuple #[.agg #[.int .i64 0, .int .i64 0, .slice none 0 0], .int .i64 56]) ∧ Below w.heap.size w w' := by
        clear h h0
        unfold OpS.val at hck ⊢
        go_enter Try.func22, Try.ntmps22
        go_wp2_with (first | (go_at_call 15; refine (hck _).mono ?_; rintro e w1 ⟨rfl, hbl⟩; have hgb := (hbl.block w.heap.size (by first | (simp; done) | (simp; omega) | omega)).trans ((hp_alloc_lt (by simp) _).trans (heap_alloc_new w _)); have ⟨cb, fb⟩ := cells_of_heap hgb; have hgc := (hbl.block (w.heap.size + 1) (by first | (simp; done) | (simp; omega) | omega)).trans (hp_alloc_new (by simp) _); have ⟨cc, fc⟩ := cells_of_heap hgc; have hz1 : w.heap.size + 1 < w1.heap.size := (by have := hbl.size; simp at this; omega); have hk1 : ∀ M, Keep M w w1 := fun M => (((Keep.refl M w).alloc _).alloc _).trans (Keep.of_below hbl) (fun _ _ h => h)) | (go_at_call 17; refine (query_any _ _).mono ?_; rintro e w' ⟨rfl, rfl⟩; rw [HQ.out]))
        refine bodyPost_ret (v := .tuple #[.agg #[.int .i64 0, .int .i64 0, .slice none 0 0], .int .i64 56]) (by simp [results, Try.results22, go_sem, cc, hz1]) rfl ⟨rfl, ?_⟩
        (refine Keep.below (M := fun _ => False) ?_ (fun _ _ h => h)); (repeat (first | with_reducible exact Keep.refl _ _ | with_reducible exact hk1 _ | with_reducible exact hk2 | with_reducible refine Keep.drew ?_ | with_reducible refine Keep.alloc ?_ _ | with_reducible refine Keep.setCell ?_ (by first | exact Or.inl (Or.inl rfl) | exact Or.inl (Or.inr rfl) | exact Or.inl rfl | (right; simp; done) | (right; simp; omega) | (right; omega)) _))
      exact key.mono fun e w' he => asked_same h0 he.1 he.2
end Go.Proofs.Ytfahakmnlmlgcaa
