/-
  The contract of Do where an op is done.
-/
import Derived.Test.YtfahakmnlmlgcaaDo
import Derived.Deep.DeepCutAuto
namespace Go.Proofs.Ytfahakmnlmlgcaa
open Go.RowKit Go.Lib
set_option linter.unusedVariables false
set_option linter.unusedSimpArgs false

/-- What stands when the op has been done: its result lies in block b. -/
def DoMid (F : Nat → Prop) (w3 : World) (g : Nat) (r : Res) (S' : Nat → Option Qu) (s10 : Value) (wx : World) : Prop :=
  ∃ b A c F', s10 = .pointer (some ⟨b, 0, none⟩) ∧ wx.heap[b]? = some (.cells #[.int .i64 r.code, .int .i64 r.num, .slice A r.items.length c] 28 (0, 0)) ∧ w3.heap.size ≤ b ∧ Keep F w3 wx ∧
    Row (Made w3 wx) wx 9 1 (.slice A r.items.length c) r.items.length (textsV r.items) ∧ ShelfAt F' wx g S' ∧ ∀ k, F' k → (F k ∨ (Made w3 wx k ∧ (Value.slice A r.items.length c).ownBlock ≠ some k)) ∧ k ≠ b

theorem mid_new {F : Nat → Prop} {w3 W w5 : World} {g : Nat} {r : Res} {S' : Nat → Option Qu} {F5 : Nat → Prop} {A : Option Addr} {c : Nat} (hFl : ∀ k, F k → k < w3.heap.size) (k0 : Keep F w3 W) (k5 : Keep F W w5)
    (r5 : Row (Made W w5) w5 9 1 (.slice A r.items.length c) r.items.length (textsV r.items)) (s5 : ShelfAt F5 w5 g S') (hF5 : ∀ k, F5 k → F k ∨ (Made W w5 k ∧ (Value.slice A r.items.length c).ownBlock ≠ some k)) (p : Value)
    (hp : p = .pointer (some ⟨w5.heap.size, 0, none⟩)) : DoMid F w3 g r S' p (w5.alloc (.cells #[.int .i64 r.code, .int .i64 r.num, .slice A r.items.length c] 28)) := by
  have z0 := k0.size
  have z5 := k5.size
  have ka : Keep (fun _ => False) w5 (w5.alloc (.cells #[.int .i64 r.code, .int .i64 r.num, .slice A r.items.length c] 28)) := (Keep.refl _ _).alloc _
  refine ⟨w5.heap.size, A, c, fun k => F5 k ∧ k < w5.heap.size, hp, heap_alloc_new _ _, by omega, (k0.trans k5 (fun _ _ h => h)).trans ka (fun _ _ h => h.elim), ?_, s5.cut.keep ka (fun _ _ h => h), fun k hk => ⟨?_, by omega⟩⟩
  · exact (r5.keep ka (fun _ _ h => h)).mono (fun k hk _ => ⟨by have := hk.1; omega, by have := hk.2; simp; omega⟩)
  · rcases hF5 k hk.1 with h | h
    · exact .inl h
    · exact .inr ⟨⟨by have := h.1.1; omega, by have := h.1.2; simp; omega⟩, h.2⟩

theorem mid_old {F : Nat → Prop} {w3 W w5 : World} {g b : Nat} {r : Res} {S' : Nat → Option Qu} {F5 : Nat → Prop} {A : Option Addr} {c : Nat} {x y z : Value} (hFl : ∀ k, F k → k < w3.heap.size) (k0 : Keep F w3 W) (k5 : Keep F W w5)
    (r5 : Row (Made W w5) w5 9 1 (.slice A r.items.length c) r.items.length (textsV r.items)) (s5 : ShelfAt F5 w5 g S') (hF5 : ∀ k, F5 k → F k ∨ (Made W w5 k ∧ (Value.slice A r.items.length c).ownBlock ≠ some k)) (p : Value)
    (hp : p = .pointer (some ⟨b, 0, none⟩)) (hb3 : w3.heap.size ≤ b) (hbW : b < W.heap.size) (h5 : w5.heap[b]? = some (.cells #[x, y, z] 28 (0, 0))) :
    DoMid F w3 g r S' p (((w5.setCell ⟨b, 0, none⟩ (.int .i64 r.code)).setCell ⟨b, 1, none⟩ (.int .i64 r.num)).setCell ⟨b, 2, none⟩ (.slice A r.items.length c)) := by
  have z0 := k0.size
  have z5 := k5.size
  have ks : Keep (fun k => k = b) w5 (((w5.setCell ⟨b, 0, none⟩ (.int .i64 r.code)).setCell ⟨b, 1, none⟩ (.int .i64 r.num)).setCell ⟨b, 2, none⟩ (.slice A r.items.length c)) := (((Keep.refl (fun k => k = b) w5).setCell (a := ⟨b, 0, none⟩) (.inl rfl) _).setCell (a := ⟨b, 1, none⟩) (.inl rfl) _).setCell (a := ⟨b, 2, none⟩) (.inl rfl) _
  have zs : (((w5.setCell ⟨b, 0, none⟩ (.int .i64 r.code)).setCell ⟨b, 1, none⟩ (.int .i64 r.num)).setCell ⟨b, 2, none⟩ (.slice A r.items.length c)).heap.size = w5.heap.size := by simp [World.setCell]
  have hh := heap_setCell (o := 2) (heap_setCell (o := 1) (heap_setCell (o := 0) h5 (.int .i64 r.code)) (.int .i64 r.num)) (.slice A r.items.length c)
  generalize (((w5.setCell ⟨b, 0, none⟩ (.int .i64 r.code)).setCell ⟨b, 1, none⟩ (.int .i64 r.num)).setCell ⟨b, 2, none⟩ (.slice A r.items.length c)) = wx at ks zs hh ⊢
  have hFb : ∀ k, F5 k → k ≠ b := by
    rintro k hk rfl
    rcases hF5 k hk with h | h
    · have := hFl k h; omega
    · have := h.1.1; omega
  refine ⟨b, A, c, F5, hp, by simpa using hh, hb3, (k0.trans k5 (fun _ _ h => h)).trans ks (fun k hk h => by omega), ?_, s5.keep ks (fun k hk => hFb k hk), fun k hk => ⟨?_, hFb k hk⟩⟩
  · exact (r5.keep ks (fun k hk e => by have := hk.1; omega)).mono (fun k hk _ => ⟨by have := hk.1; omega, by have := hk.2; omega⟩)
  · rcases hF5 k hk with h | h
    · exact .inl h
    · exact .inr ⟨⟨by have := h.1.1; omega, by have := h.1.2; omega⟩, h.2⟩

/-- What a Do leaves that has done something: the result r; the slot k; the shelf S'. -/
def DoPost (F0 : Nat → Prop) (w : World) (g : Nat) (r : Res) (S' : Nat → Option Qu) (k : Int) (e : Ending) (w' : World) : Prop :=
  ∃ v F', e = .returned (.tuple #[.agg #[.int .i64 r.code, .int .i64 r.num, v], .int .i64 k, .int .i64 0]) ∧
      Row (Made w w') w' 9 1 v r.items.length (textsV r.items) ∧ ShelfAt F' w' g S' ∧ (∀ k, F' k → F0 k ∨ (Made w w' k ∧ v.ownBlock ≠ some k)) ∧ Keep F0 w w'

theorem do_end {F0 F F' : Nat → Prop} {w w3 wx w6 : World} {g : Nat} {r : Res} {S' : Nat → Option Qu} {A : Option Addr} {c : Nat} (k : Int) (hFl : ∀ k, F k → F0 k ∧ k < w.heap.size) (kw3 : Keep (fun _ => False) w w3) (hzw : w.heap.size + 1 < w3.heap.size) (kx : Keep F w3 wx)
    (rx : Row (Made w3 wx) wx 9 1 (.slice A r.items.length c) r.items.length (textsV r.items)) (sx : ShelfAt F' wx g S') (hF' : ∀ k, F' k → F k ∨ (Made w3 wx k ∧ (Value.slice A r.items.length c).ownBlock ≠ some k)) (hb6 : Below wx.heap.size wx w6)
    {x y z : Value} (h6 : w6.heap[w.heap.size + 1]? = some (.cells #[x, y, z] 28 (0, 0))) :
    ∃ w', ((w6.setCell ⟨w.heap.size + 1, 0, none⟩ (.int .i64 r.code)).setCell ⟨w.heap.size + 1, 1, none⟩ (.int .i64 r.num)).setCell ⟨w.heap.size + 1, 2, none⟩ (.slice A r.items.length c) = w' ∧
      w'.heap[w.heap.size + 1]? = some (.cells #[.int .i64 r.code, .int .i64 r.num, .slice A r.items.length c] 28 (0, 0)) ∧
      DoPost F0 w g r S' k (.returned (.tuple #[.agg #[.int .i64 r.code, .int .i64 r.num, .slice A r.items.length c], .int .i64 k, .int .i64 0])) w' := by
  have z0 := kw3.size
  have z1 := kx.size
  have z6 := hb6.size
  have ks : Keep (fun k => k = w.heap.size + 1) w6 (((w6.setCell ⟨w.heap.size + 1, 0, none⟩ (.int .i64 r.code)).setCell ⟨w.heap.size + 1, 1, none⟩ (.int .i64 r.num)).setCell ⟨w.heap.size + 1, 2, none⟩ (.slice A r.items.length c)) :=
    (((Keep.refl (fun k => k = w.heap.size + 1) w6).setCell (a := ⟨w.heap.size + 1, 0, none⟩) (.inl rfl) _).setCell (a := ⟨w.heap.size + 1, 1, none⟩) (.inl rfl) _).setCell (a := ⟨w.heap.size + 1, 2, none⟩) (.inl rfl) _
  have hh := heap_setCell (o := 2) (heap_setCell (o := 1) (heap_setCell (o := 0) h6 (.int .i64 r.code)) (.int .i64 r.num)) (.slice A r.items.length c)
  refine ⟨_, rfl, by simpa using hh, ?_⟩
  have zs : (((w6.setCell ⟨w.heap.size + 1, 0, none⟩ (.int .i64 r.code)).setCell ⟨w.heap.size + 1, 1, none⟩ (.int .i64 r.num)).setCell ⟨w.heap.size + 1, 2, none⟩ (.slice A r.items.length c)).heap.size = w6.heap.size := by simp [World.setCell]
  generalize (((w6.setCell ⟨w.heap.size + 1, 0, none⟩ (.int .i64 r.code)).setCell ⟨w.heap.size + 1, 1, none⟩ (.int .i64 r.num)).setCell ⟨w.heap.size + 1, 2, none⟩ (.slice A r.items.length c)) = w' at ks zs hh ⊢
  have k6 : Keep (fun _ => False) wx w6 := Keep.of_below hb6
  have kall : Keep F w w' := (((kw3.mono (N := F) (fun _ _ h => h.elim)).trans kx (fun _ _ h => h)).trans k6 (fun _ _ h => h.elim)).trans ks (fun k hk h => by omega)
  refine ⟨_, F', rfl, ?_, ?_, fun k hk => ?_, kall.mono (fun k _ h => (hFl k h).1)⟩
  · exact ((rx.keep k6 (fun _ _ h => h)).keep ks (fun k hk e => by have := hk.1; omega)).mono (fun k hk _ => ⟨by have := hk.1; omega, by have := hk.2; omega⟩)
  · refine (sx.keep k6 (fun _ _ h => h)).keep ks (fun k hk e => ?_)
    rcases hF' k hk with h | h
    · have := (hFl k h).2; omega
    · have := h.1.1; omega
  · rcases hF' k hk with h | h
    · exact .inl (hFl k h).1
    · exact .inr ⟨⟨by have := h.1.1; omega, by have := h.1.2; omega⟩, h.2⟩

set_option maxRecDepth 100000 in
set_option maxHeartbeats 4000000 in
theorem do_at (F0 : Nat → Prop) (w : World) (g : Nat) (S : Nat → Option Qu) (o : OpS) (h0 : ShelfAt F0 w g S) (hG : GoodS S) (hc : checkS o = 0) (hk : o.kind ≠ 1 ∧ o.kind ≠ 8) (i : Nat) (hi : i < 8) (hf : firstK (isQ S o.name) = some i) (fn : Nat)
    (hidx : ∀ W, (Instr.index 96 (.agg doT) (.int .i64 o.kind)).run Try.prog W = .ok (.func (.func fn) #[] #[]) W) (hen : ∀ args w, (callFunc fn args).run Try.prog w = .ok (.enter fn args) w) (S' : Nat → Option Qu) (hG' : GoodS S') (r : Res)
    (hdo : ∀ F W, ShelfAt F W g S → Calls Try.prog fn #[.pointer (some ⟨g, 0, none⟩), .int .i64 (↑i), o.val] W (Did F W g r S')) :
    Calls Try.prog 12 #[.pointer (some ⟨g, 0, none⟩), o.val] w (DoPost F0 w g r S' (if slotI S (↑i) = slotI S' (↑i) then -1 else (↑i))) := by
  have h := h0.cut
  obtain ⟨F, hF, hFl⟩ : ∃ F : Nat → Prop, F = (fun k => F0 k ∧ k < w.heap.size) ∧ ∀ k, F k → F0 k ∧ k < w.heap.size := ⟨_, rfl, fun k h => h⟩
  rw [← hF] at h
  clear hF h0
  have hck := fun W => check_any o W
  rw [hc] at hck
  have hfd := fun W h => find_any F W g S h o.name
  have hsl := fun W h => slot_any F W g (↑i) S h hG
  have hsl' := fun F W h => slot_any F W g (↑i) S' h hG'
  obtain ⟨lx, hlx⟩ : ∃ l, slotI S (↑i) = l := ⟨_, rfl⟩
  obtain ⟨ly, hly⟩ : ∃ l, slotI S' (↑i) = l := ⟨_, rfl⟩
  rw [hlx] at hsl ⊢
  rw [hly] at hsl' ⊢
  clear hlx hly
  obtain ⟨kk, hkk⟩ : ∃ kk : Int, (if lx = ly then -1 else ↑i) = kk := ⟨_, rfl⟩
  rw [hkk]
  have HK := Lib.hid hkk
  clear hkk
  obtain ⟨kind, nm, tx, num, most⟩ := o
  simp only at hfd hidx
  obtain ⟨hk1', hk8'⟩ := hk; simp only at hk1' hk8'; have hii : (i : Int) < 8 := (by omega); rw [hf] at hfd; simp only [optI] at hfd
  unfold OpS.val at hck hdo ⊢
  simp only at hdo hck
  have hg := h.lt
  have HDO := Lib.hid hdo
  have HSL := Lib.hid hsl'
  clear hdo hsl'
  go_enter Try.func12, Try.ntmps12
  go_upto_region 16 with (first | (go_at_call 15; refine (hck _).mono ?_; rintro e w1 ⟨rfl, hbl⟩; have hgb := (hbl.block w.heap.size (by first | (simp; done) | (simp; omega) | omega)).trans ((hp_alloc_lt (by simp) _).trans (heap_alloc_new w _)); have ⟨cb, fb⟩ := cells_of_heap hgb; have hgc := (hbl.block (w.heap.size + 1) (by first | (simp; done) | (simp; omega) | omega)).trans (hp_alloc_new (by simp) _); have ⟨cc, fc⟩ := cells_of_heap hgc; have hz1 : w.heap.size + 1 < w1.heap.size := (by have := hbl.size; simp at this; omega); have hk1 : ∀ M, Keep M w w1 := fun M => (((Keep.refl M w).alloc _).alloc _).trans (Keep.of_below hbl) (fun _ _ h => h)) | (go_at_call 47; refine (hfd _ (h.keep (hk1 (fun _ => False)) (fun _ _ h => h))).mono ?_; rintro e w2 ⟨rfl, hb2⟩; have hgd := (hb2.block w.heap.size (by omega)).trans hgb; have ⟨cd, fd⟩ := cells_of_heap hgd; have hge := (hb2.block (w.heap.size + 1) (by omega)).trans hgc; have ⟨ce, fe⟩ := cells_of_heap hge; have hz2 := hb2.size; have hk2 : ∀ M, Keep M w w2 := fun M => (hk1 M).trans (Keep.of_below hb2) (fun _ _ h => h))
                                 | (go_at_call 46; refine (hsl _ (h.keep (hk2 (fun _ => False)) (fun _ _ h => h))).mono ?_; rintro e w3 ⟨v3, rfl, r3, hb3⟩; have hgf := (hb3.block w.heap.size (by omega)).trans hgd; have ⟨cf, ff⟩ := cells_of_heap hgf; have hgg := (hb3.block (w.heap.size + 1) (by omega)).trans hge; have ⟨cg, fg⟩ := cells_of_heap hgg; have hz3 := hb3.size; have hk3 : ∀ M, Keep M w w3 := fun M => (hk2 M).trans (Keep.of_below hb3) (fun _ _ h => h)))
  have kw3 := hk3 (fun _ => False)
  have r3' : Row (Made w w3) w3 5 1 v3 lx.length (bytesV lx) := r3.mono (fun k hk hl => ⟨by have := hk.1; omega, hl⟩)
  have hzw : w.heap.size + 1 < w3.heap.size := by omega
  clear cb fb cc fc cd fd ce fe hgb hgc hgd hge hk1 hk2 hbl hb2 hb3 hz1 hz2 hz3 r3 hk3 hck hfd hsl
  have hFl3 : ∀ k, F k → k < w3.heap.size := fun k hk => by have := (hFl k hk).2; omega
  have kd : ∀ {W : World}, Keep (fun _ => False) w3 W → Keep F w3 W := fun k => k.mono (fun _ _ h => h.elim)
  go_cut [10] (fun s10 wx => DoMid F w3 g r S' s10 wx)
  case first =>
    go_region_held3 (fun w' => w'.cell? ⟨w.heap.size, 0, none⟩ = some (.int .i64 kind) ∧ w'.cell? ⟨w.heap.size, 1, none⟩ = some (.string nm) ∧ w'.cell? ⟨w.heap.size, 2, none⟩ = some (.string tx) ∧ w'.cell? ⟨w.heap.size, 3, none⟩ = some (.int .i64 num) ∧ w'.cell? ⟨w.heap.size, 4, none⟩ = some (.int .i64 most))
      (first | with_reducible exact cells5 hg5 | with_reducible exact cells5 hg4 | with_reducible exact cells5 hgf
             | with_reducible exact cells5 ((hp_alloc_lt (lt_of_heap hg5) _).trans hg5) | with_reducible exact cells5 ((hp_alloc_lt (lt_of_heap hg4) _).trans hg4) | with_reducible exact cells5 ((hp_alloc_lt (lt_of_heap hgf) _).trans hgf)
             | with_reducible exact cells5 ((heap_setCell_other (by simp; omega) _).trans ((heap_setCell_other (by simp; omega) _).trans ((heap_setCell_other (by simp; omega) _).trans hg5)))
             | go_keep)
      (first | (go_at_call 50; refine (doings_any _).mono ?_; rintro e w4 ⟨rfl, hb4⟩; have k4 : Keep (fun _ => False) w3 w4 := Keep.trans (by first | with_reducible exact (Keep.refl _ _).drew | with_reducible exact (Keep.refl _ _).drew.alloc _ | with_reducible exact ((Keep.refl _ _).alloc _).drew) (Keep.of_below (M := fun _ => False) hb4) (fun _ _ h => h); have hg4 := k4.heap hgf (fun h => h); have zk4 := k4.size; (try (have h10 : w4.heap[w3.heap.size]? = some (.cells #[.int .i64 0, .int .i64 0, .slice none 0 0] 28 (0, 0)) := (by first | exact (hb4.block w3.heap.size (by simp; done)).trans (heap_alloc_new w3 _) | exact (hb4.block w3.heap.size (by simp; done)).trans (heap_alloc_new w3.drew _)))); (try (have z10 : w3.heap.size < w4.heap.size := (lt_of_heap h10))))
             | (go_at_fn fn; refine (HDO.out F _ (h.keep (kw3.trans (M := fun _ => False) (N := fun _ => False) (by first | with_reducible exact k4 | with_reducible exact k4.alloc _) (fun _ _ h => h)) (fun _ _ h => h))).mono ?_; rintro e w5 ⟨v5, F5, rfl, r5, hs5, hF5, k5⟩; have k35 : Keep F w3 w5 := Keep.trans (by first | with_reducible exact k4.mono (fun _ _ h => h.elim) | with_reducible exact (k4.alloc _).mono (fun _ _ h => h.elim)) k5 (fun _ _ h => h); have hg5 := k35.heap hgf (fun h => by have := (hFl _ h).2; omega); obtain ⟨A5, c5, rfl⟩ := r5.form; (try (have h11 : w5.heap[w4.heap.size]? = some (.cells #[.int .i64 0, .int .i64 0, .slice none 0 0] 28 (0, 0)) := (by with_reducible exact k5.heap (heap_alloc_new w4 _) (fun h => by have := (hFl _ h).2; omega)))); (try (have h11 : w5.heap[w3.heap.size]? = some (.cells #[.int .i64 0, .int .i64 0, .slice none 0 0] 28 (0, 0)) := (by with_reducible exact k5.heap h10 (fun h => by have := (hFl _ h).2; omega)))); (try (have ⟨⟨d0, d1, d2⟩, e0, e1, e2⟩ := cells3 h11))))
    all_goals
      go_wp2_with fail
      go_meet
      first
        | with_reducible exact mid_new hFl3 (kd k4) k5 r5 hs5 hF5 _ rfl
        | with_reducible exact mid_old hFl3 (kd (k4.alloc _)) k5 r5 hs5 hF5 _ rfl zk4 (by simp) h11
        | with_reducible exact mid_old hFl3 (kd k4) k5 r5 hs5 hF5 _ rfl (Nat.le_refl _) z10 h11
  case rest =>
    obtain ⟨b, A, c, F', rfl, hb0, hlb, kx, rx, sx, hF'⟩ := hcut
    have zx := kx.size
    have hr0 := kx.heap hgg (fun h => by have := (hFl _ h).2; omega)
    have hx0 := kx.heap hgf (fun h => by have := (hFl _ h).2; omega)
    have src3 : Src wc 1 v3 lx.length (bytesV lx) := Src.of_row (r3'.keep (M := F) kx (fun k hk hF => by have := (hFl _ hF).2; have := hk.1; omega)) (bytesV_one _)
    clear cf ff cg fg hgf hgg
    obtain ⟨B3, n3, c3, rfl⟩ : ∃ B n c, v3 = .slice B n c := by obtain ⟨B, c, e⟩ := src3.form; exact ⟨B, _, c, e⟩
    have SRC := Lib.hid src3
    have RX := Lib.hid rx
    have SX := Lib.hid sx
    clear src3 rx sx r3'
    have hFx : ∀ k, F' k → F k ∨ (Made w3 wc k ∧ (Value.slice A r.items.length c).ownBlock ≠ some k) := fun k hk => (hF' k hk).1
    by_cases hxy : lx = ly
    · obtain rfl : kk = -1 := by rw [← HK.out, if_pos hxy]
      subst hxy
      clear HK
      go_wp2_with (first | (go_at_call 46; refine (HSL.out _ _ SX.out).mono ?_; rintro e w6 ⟨v6, rfl, r6, hb6⟩; have src6 := SRC.out.below hb6; have src6' := Src.of_row r6 (bytesV_one _); have hr6 := (hb6.block _ (lt_of_heap hr0)).trans hr0; have ⟨c6, f6⟩ := cells_of_heap hr6; have hm6 := (hb6.block _ (lt_of_heap hb0)).trans hb0; have ⟨m6, n6⟩ := cells_of_heap hm6)
                         | (go_at_call 51; refine (equal_any _ _ _ _ _ src6 src6').mono ?_; rintro e w7 ⟨rfl, rfl⟩; rw [beq_self_eq_true]))
      obtain ⟨w', hw', hh, hp⟩ := do_end (-1) hFl kw3 hzw kx RX.out SX.out hFx hb6 hr6
      rw [hw']
      have ⟨ch, _⟩ := cells_of_heap hh
      exact bodyPost_ret (v := .tuple #[.agg #[.int .i64 r.code, .int .i64 r.num, .slice A r.items.length c], .int .i64 (-1), .int .i64 0]) (by simp [results, Try.results12, go_sem, ch]) rfl hp
    · obtain rfl : kk = ↑i := by rw [← HK.out, if_neg hxy]
      have hne : (lx == ly) = false := by simpa using hxy
      clear HK
      go_wp2_with (first | (go_at_call 46; refine (HSL.out _ _ SX.out).mono ?_; rintro e w6 ⟨v6, rfl, r6, hb6⟩; have src6 := SRC.out.below hb6; have src6' := Src.of_row r6 (bytesV_one _); have hr6 := (hb6.block _ (lt_of_heap hr0)).trans hr0; have ⟨c6, f6⟩ := cells_of_heap hr6; have hm6 := (hb6.block _ (lt_of_heap hb0)).trans hb0; have ⟨m6, n6⟩ := cells_of_heap hm6)
                         | (go_at_call 51; refine (equal_any _ _ _ _ _ src6 src6').mono ?_; rintro e w7 ⟨rfl, rfl⟩; rw [hne]))
      obtain ⟨w', hw', hh, hp⟩ := do_end (↑i) hFl kw3 hzw kx RX.out SX.out hFx hb6 hr6
      rw [hw']
      have ⟨ch, _⟩ := cells_of_heap hh
      exact bodyPost_ret (v := .tuple #[.agg #[.int .i64 r.code, .int .i64 r.num, .slice A r.items.length c], .int .i64 (↑i), .int .i64 0]) (by simp [results, Try.results12, go_sem, ch]) rfl hp
set_option maxRecDepth 100000 in
set_option maxHeartbeats 4000000 in
theorem do_make (F0 : Nat → Prop) (w : World) (g : Nat) (S : Nat → Option Qu) (o : OpS) (h0 : ShelfAt F0 w g S) (hG : GoodS S) (hc : checkS o = 0) (hk : o.kind = 1) (i : Nat) (hi : i < 8) (hf : firstK (isQ S o.name) = none) (hfr : firstK (isFree S) = some i) (fn : Nat)
    (hidx : ∀ W, (Instr.index 96 (.agg doT) (.int .i64 o.kind)).run Try.prog W = .ok (.func (.func fn) #[] #[]) W) (hen : ∀ args w, (callFunc fn args).run Try.prog w = .ok (.enter fn args) w) (S' : Nat → Option Qu) (hG' : GoodS S') (r : Res)
    (hdo : ∀ F W, ShelfAt F W g S → Calls Try.prog fn #[.pointer (some ⟨g, 0, none⟩), .int .i64 (↑i), o.val] W (Did F W g r S')) :
    Calls Try.prog 12 #[.pointer (some ⟨g, 0, none⟩), o.val] w (DoPost F0 w g r S' (if slotI S (↑i) = slotI S' (↑i) then -1 else (↑i))) := by
  have h := h0.cut
  obtain ⟨F, hF, hFl⟩ : ∃ F : Nat → Prop, F = (fun k => F0 k ∧ k < w.heap.size) ∧ ∀ k, F k → F0 k ∧ k < w.heap.size := ⟨_, rfl, fun k h => h⟩
  rw [← hF] at h
  clear hF h0
  have hck := fun W => check_any o W
  rw [hc] at hck
  have hfd := fun W h => find_any F W g S h o.name
  have hsl := fun W h => slot_any F W g (↑i) S h hG
  have hsl' := fun F W h => slot_any F W g (↑i) S' h hG'
  obtain ⟨lx, hlx⟩ : ∃ l, slotI S (↑i) = l := ⟨_, rfl⟩
  obtain ⟨ly, hly⟩ : ∃ l, slotI S' (↑i) = l := ⟨_, rfl⟩
  rw [hlx] at hsl ⊢
  rw [hly] at hsl' ⊢
  clear hlx hly
  obtain ⟨kk, hkk⟩ : ∃ kk : Int, (if lx = ly then -1 else ↑i) = kk := ⟨_, rfl⟩
  rw [hkk]
  have HK := Lib.hid hkk
  clear hkk
  obtain ⟨kind, nm, tx, num, most⟩ := o
  simp only at hfd hidx
  simp only at hk; subst hk; have hii : (i : Int) < 8 := (by omega); rw [hf] at hfd; simp only [optI] at hfd
  unfold OpS.val at hck hdo ⊢
  simp only at hdo hck
  have hg := h.lt
  have HDO := Lib.hid hdo
  have HSL := Lib.hid hsl'
  clear hdo hsl'
  go_enter Try.func12, Try.ntmps12
  go_upto_region 16 with (first | (go_at_call 15; refine (hck _).mono ?_; rintro e w1 ⟨rfl, hbl⟩; have hgb := (hbl.block w.heap.size (by first | (simp; done) | (simp; omega) | omega)).trans ((hp_alloc_lt (by simp) _).trans (heap_alloc_new w _)); have ⟨cb, fb⟩ := cells_of_heap hgb; have hgc := (hbl.block (w.heap.size + 1) (by first | (simp; done) | (simp; omega) | omega)).trans (hp_alloc_new (by simp) _); have ⟨cc, fc⟩ := cells_of_heap hgc; have hz1 : w.heap.size + 1 < w1.heap.size := (by have := hbl.size; simp at this; omega); have hk1 : ∀ M, Keep M w w1 := fun M => (((Keep.refl M w).alloc _).alloc _).trans (Keep.of_below hbl) (fun _ _ h => h)) | (go_at_call 47; refine (hfd _ (h.keep (hk1 (fun _ => False)) (fun _ _ h => h))).mono ?_; rintro e w2 ⟨rfl, hb2⟩; have hgd := (hb2.block w.heap.size (by omega)).trans hgb; have ⟨cd, fd⟩ := cells_of_heap hgd; have hge := (hb2.block (w.heap.size + 1) (by omega)).trans hgc; have ⟨ce, fe⟩ := cells_of_heap hge; have hz2 := hb2.size; have hk2 : ∀ M, Keep M w w2 := fun M => (hk1 M).trans (Keep.of_below hb2) (fun _ _ h => h))| (go_at_call 48; refine (index_free F _ g S (h.keep (hk2 (fun _ => False)) (fun _ _ h => h))).mono ?_; rw [hfr]; simp only [optI]; rintro e w2b ⟨rfl, hb2b⟩; have hgd := (hb2b.block _ (lt_of_heap hgd)).trans hgd; have hge := (hb2b.block _ (lt_of_heap hge)).trans hge; have hk2 : ∀ M, Keep M w w2b := fun M => (hk2 M).trans (Keep.of_below hb2b) (fun _ _ h => h); have hz2 := Nat.le_trans hz2 hb2b.size; have ⟨cd, fd⟩ := cells_of_heap hgd; have ⟨ce, fe⟩ := cells_of_heap hge)
                                 | (go_at_call 46; refine (hsl _ (h.keep (hk2 (fun _ => False)) (fun _ _ h => h))).mono ?_; rintro e w3 ⟨v3, rfl, r3, hb3⟩; have hgf := (hb3.block w.heap.size (by omega)).trans hgd; have ⟨cf, ff⟩ := cells_of_heap hgf; have hgg := (hb3.block (w.heap.size + 1) (by omega)).trans hge; have ⟨cg, fg⟩ := cells_of_heap hgg; have hz3 := hb3.size; have hk3 : ∀ M, Keep M w w3 := fun M => (hk2 M).trans (Keep.of_below hb3) (fun _ _ h => h)))
  have kw3 := hk3 (fun _ => False)
  have r3' : Row (Made w w3) w3 5 1 v3 lx.length (bytesV lx) := r3.mono (fun k hk hl => ⟨by have := hk.1; omega, hl⟩)
  have hzw : w.heap.size + 1 < w3.heap.size := by omega
  clear cb fb cc fc cd fd ce fe hgb hgc hgd hge hk1 hk2 hbl hb2 hb3 hz1 hz2 hz3 r3 hk3 hck hfd hsl
  have hFl3 : ∀ k, F k → k < w3.heap.size := fun k hk => by have := (hFl k hk).2; omega
  have kd : ∀ {W : World}, Keep (fun _ => False) w3 W → Keep F w3 W := fun k => k.mono (fun _ _ h => h.elim)
  go_cut [10] (fun s10 wx => DoMid F w3 g r S' s10 wx)
  case first =>
    go_region_held3 (fun w' => w'.cell? ⟨w.heap.size, 0, none⟩ = some (.int .i64 1) ∧ w'.cell? ⟨w.heap.size, 1, none⟩ = some (.string nm) ∧ w'.cell? ⟨w.heap.size, 2, none⟩ = some (.string tx) ∧ w'.cell? ⟨w.heap.size, 3, none⟩ = some (.int .i64 num) ∧ w'.cell? ⟨w.heap.size, 4, none⟩ = some (.int .i64 most))
      (first | with_reducible exact cells5 hg5 | with_reducible exact cells5 hg4 | with_reducible exact cells5 hgf
             | with_reducible exact cells5 ((hp_alloc_lt (lt_of_heap hg5) _).trans hg5) | with_reducible exact cells5 ((hp_alloc_lt (lt_of_heap hg4) _).trans hg4) | with_reducible exact cells5 ((hp_alloc_lt (lt_of_heap hgf) _).trans hgf)
             | with_reducible exact cells5 ((heap_setCell_other (by simp; omega) _).trans ((heap_setCell_other (by simp; omega) _).trans ((heap_setCell_other (by simp; omega) _).trans hg5)))
             | go_keep)
      (first | (go_at_call 50; refine (doings_any _).mono ?_; rintro e w4 ⟨rfl, hb4⟩; have k4 : Keep (fun _ => False) w3 w4 := Keep.trans (by first | with_reducible exact (Keep.refl _ _).drew | with_reducible exact (Keep.refl _ _).drew.alloc _ | with_reducible exact ((Keep.refl _ _).alloc _).drew) (Keep.of_below (M := fun _ => False) hb4) (fun _ _ h => h); have hg4 := k4.heap hgf (fun h => h); have zk4 := k4.size; (try (have h10 : w4.heap[w3.heap.size]? = some (.cells #[.int .i64 0, .int .i64 0, .slice none 0 0] 28 (0, 0)) := (by first | exact (hb4.block w3.heap.size (by simp; done)).trans (heap_alloc_new w3 _) | exact (hb4.block w3.heap.size (by simp; done)).trans (heap_alloc_new w3.drew _)))); (try (have z10 : w3.heap.size < w4.heap.size := (lt_of_heap h10))))
             | (go_at_fn fn; refine (HDO.out F _ (h.keep (kw3.trans (M := fun _ => False) (N := fun _ => False) (by first | with_reducible exact k4 | with_reducible exact k4.alloc _) (fun _ _ h => h)) (fun _ _ h => h))).mono ?_; rintro e w5 ⟨v5, F5, rfl, r5, hs5, hF5, k5⟩; have k35 : Keep F w3 w5 := Keep.trans (by first | with_reducible exact k4.mono (fun _ _ h => h.elim) | with_reducible exact (k4.alloc _).mono (fun _ _ h => h.elim)) k5 (fun _ _ h => h); have hg5 := k35.heap hgf (fun h => by have := (hFl _ h).2; omega); obtain ⟨A5, c5, rfl⟩ := r5.form; (try (have h11 : w5.heap[w4.heap.size]? = some (.cells #[.int .i64 0, .int .i64 0, .slice none 0 0] 28 (0, 0)) := (by with_reducible exact k5.heap (heap_alloc_new w4 _) (fun h => by have := (hFl _ h).2; omega)))); (try (have h11 : w5.heap[w3.heap.size]? = some (.cells #[.int .i64 0, .int .i64 0, .slice none 0 0] 28 (0, 0)) := (by with_reducible exact k5.heap h10 (fun h => by have := (hFl _ h).2; omega)))); (try (have ⟨⟨d0, d1, d2⟩, e0, e1, e2⟩ := cells3 h11))))
    all_goals
      go_wp2_with fail
      go_meet
      first
        | with_reducible exact mid_new hFl3 (kd k4) k5 r5 hs5 hF5 _ rfl
        | with_reducible exact mid_old hFl3 (kd (k4.alloc _)) k5 r5 hs5 hF5 _ rfl zk4 (by simp) h11
        | with_reducible exact mid_old hFl3 (kd k4) k5 r5 hs5 hF5 _ rfl (Nat.le_refl _) z10 h11
  case rest =>
    obtain ⟨b, A, c, F', rfl, hb0, hlb, kx, rx, sx, hF'⟩ := hcut
    have zx := kx.size
    have hr0 := kx.heap hgg (fun h => by have := (hFl _ h).2; omega)
    have hx0 := kx.heap hgf (fun h => by have := (hFl _ h).2; omega)
    have src3 : Src wc 1 v3 lx.length (bytesV lx) := Src.of_row (r3'.keep (M := F) kx (fun k hk hF => by have := (hFl _ hF).2; have := hk.1; omega)) (bytesV_one _)
    clear cf ff cg fg hgf hgg
    obtain ⟨B3, n3, c3, rfl⟩ : ∃ B n c, v3 = .slice B n c := by obtain ⟨B, c, e⟩ := src3.form; exact ⟨B, _, c, e⟩
    have SRC := Lib.hid src3
    have RX := Lib.hid rx
    have SX := Lib.hid sx
    clear src3 rx sx r3'
    have hFx : ∀ k, F' k → F k ∨ (Made w3 wc k ∧ (Value.slice A r.items.length c).ownBlock ≠ some k) := fun k hk => (hF' k hk).1
    by_cases hxy : lx = ly
    · obtain rfl : kk = -1 := by rw [← HK.out, if_pos hxy]
      subst hxy
      clear HK
      go_wp2_with (first | (go_at_call 46; refine (HSL.out _ _ SX.out).mono ?_; rintro e w6 ⟨v6, rfl, r6, hb6⟩; have src6 := SRC.out.below hb6; have src6' := Src.of_row r6 (bytesV_one _); have hr6 := (hb6.block _ (lt_of_heap hr0)).trans hr0; have ⟨c6, f6⟩ := cells_of_heap hr6; have hm6 := (hb6.block _ (lt_of_heap hb0)).trans hb0; have ⟨m6, n6⟩ := cells_of_heap hm6)
                         | (go_at_call 51; refine (equal_any _ _ _ _ _ src6 src6').mono ?_; rintro e w7 ⟨rfl, rfl⟩; rw [beq_self_eq_true]))
      obtain ⟨w', hw', hh, hp⟩ := do_end (-1) hFl kw3 hzw kx RX.out SX.out hFx hb6 hr6
      rw [hw']
      have ⟨ch, _⟩ := cells_of_heap hh
      exact bodyPost_ret (v := .tuple #[.agg #[.int .i64 r.code, .int .i64 r.num, .slice A r.items.length c], .int .i64 (-1), .int .i64 0]) (by simp [results, Try.results12, go_sem, ch]) rfl hp
    · obtain rfl : kk = ↑i := by rw [← HK.out, if_neg hxy]
      have hne : (lx == ly) = false := by simpa using hxy
      clear HK
      go_wp2_with (first | (go_at_call 46; refine (HSL.out _ _ SX.out).mono ?_; rintro e w6 ⟨v6, rfl, r6, hb6⟩; have src6 := SRC.out.below hb6; have src6' := Src.of_row r6 (bytesV_one _); have hr6 := (hb6.block _ (lt_of_heap hr0)).trans hr0; have ⟨c6, f6⟩ := cells_of_heap hr6; have hm6 := (hb6.block _ (lt_of_heap hb0)).trans hb0; have ⟨m6, n6⟩ := cells_of_heap hm6)
                         | (go_at_call 51; refine (equal_any _ _ _ _ _ src6 src6').mono ?_; rintro e w7 ⟨rfl, rfl⟩; rw [hne]))
      obtain ⟨w', hw', hh, hp⟩ := do_end (↑i) hFl kw3 hzw kx RX.out SX.out hFx hb6 hr6
      rw [hw']
      have ⟨ch, _⟩ := cells_of_heap hh
      exact bodyPost_ret (v := .tuple #[.agg #[.int .i64 r.code, .int .i64 r.num, .slice A r.items.length c], .int .i64 (↑i), .int .i64 0]) (by simp [results, Try.results12, go_sem, ch]) rfl hp
set_option maxRecDepth 100000 in
set_option maxHeartbeats 4000000 in
theorem do_list (F0 : Nat → Prop) (w : World) (g : Nat) (S : Nat → Option Qu) (o : OpS) (h0 : ShelfAt F0 w g S) (hG : GoodS S) (hc : checkS o = 0) (hk : o.kind = 8) (fn : Nat)
    (hidx : ∀ W, (Instr.index 96 (.agg doT) (.int .i64 o.kind)).run Try.prog W = .ok (.func (.func fn) #[] #[]) W) (hen : ∀ args w, (callFunc fn args).run Try.prog w = .ok (.enter fn args) w) (S' : Nat → Option Qu) (hG' : GoodS S') (r : Res)
    (hdo : ∀ F W, ShelfAt F W g S → Calls Try.prog fn #[.pointer (some ⟨g, 0, none⟩), .int .i64 (-1), o.val] W (Did F W g r S')) :
    Calls Try.prog 12 #[.pointer (some ⟨g, 0, none⟩), o.val] w (DoPost F0 w g r S' (if slotI S (-1) = slotI S' (-1) then -1 else (-1))) := by
  have h := h0.cut
  obtain ⟨F, hF, hFl⟩ : ∃ F : Nat → Prop, F = (fun k => F0 k ∧ k < w.heap.size) ∧ ∀ k, F k → F0 k ∧ k < w.heap.size := ⟨_, rfl, fun k h => h⟩
  rw [← hF] at h
  clear hF h0
  have hck := fun W => check_any o W
  rw [hc] at hck
  have hfd := fun W h => find_any F W g S h o.name
  have hsl := fun W h => slot_any F W g (-1) S h hG
  have hsl' := fun F W h => slot_any F W g (-1) S' h hG'
  obtain ⟨lx, hlx⟩ : ∃ l, slotI S (-1) = l := ⟨_, rfl⟩
  obtain ⟨ly, hly⟩ : ∃ l, slotI S' (-1) = l := ⟨_, rfl⟩
  rw [hlx] at hsl ⊢
  rw [hly] at hsl' ⊢
  clear hlx hly
  obtain ⟨kk, hkk⟩ : ∃ kk : Int, (if lx = ly then -1 else -1) = kk := ⟨_, rfl⟩
  rw [hkk]
  have HK := Lib.hid hkk
  clear hkk
  obtain ⟨kind, nm, tx, num, most⟩ := o
  simp only at hfd hidx
  simp only at hk; subst hk; obtain ⟨fi, hfi⟩ : ∃ fi, optI (firstK (isQ S nm)) = fi := ⟨_, rfl⟩; simp only [hfi] at hfd; clear hfi
  unfold OpS.val at hck hdo ⊢
  simp only at hdo hck
  have hg := h.lt
  have HDO := Lib.hid hdo
  have HSL := Lib.hid hsl'
  clear hdo hsl'
  go_enter Try.func12, Try.ntmps12
  go_upto_region 16 with (first | (go_at_call 15; refine (hck _).mono ?_; rintro e w1 ⟨rfl, hbl⟩; have hgb := (hbl.block w.heap.size (by first | (simp; done) | (simp; omega) | omega)).trans ((hp_alloc_lt (by simp) _).trans (heap_alloc_new w _)); have ⟨cb, fb⟩ := cells_of_heap hgb; have hgc := (hbl.block (w.heap.size + 1) (by first | (simp; done) | (simp; omega) | omega)).trans (hp_alloc_new (by simp) _); have ⟨cc, fc⟩ := cells_of_heap hgc; have hz1 : w.heap.size + 1 < w1.heap.size := (by have := hbl.size; simp at this; omega); have hk1 : ∀ M, Keep M w w1 := fun M => (((Keep.refl M w).alloc _).alloc _).trans (Keep.of_below hbl) (fun _ _ h => h)) | (go_at_call 47; refine (hfd _ (h.keep (hk1 (fun _ => False)) (fun _ _ h => h))).mono ?_; rintro e w2 ⟨rfl, hb2⟩; have hgd := (hb2.block w.heap.size (by omega)).trans hgb; have ⟨cd, fd⟩ := cells_of_heap hgd; have hge := (hb2.block (w.heap.size + 1) (by omega)).trans hgc; have ⟨ce, fe⟩ := cells_of_heap hge; have hz2 := hb2.size; have hk2 : ∀ M, Keep M w w2 := fun M => (hk1 M).trans (Keep.of_below hb2) (fun _ _ h => h))
                                 | (go_at_call 46; refine (hsl _ (h.keep (hk2 (fun _ => False)) (fun _ _ h => h))).mono ?_; rintro e w3 ⟨v3, rfl, r3, hb3⟩; have hgf := (hb3.block w.heap.size (by omega)).trans hgd; have ⟨cf, ff⟩ := cells_of_heap hgf; have hgg := (hb3.block (w.heap.size + 1) (by omega)).trans hge; have ⟨cg, fg⟩ := cells_of_heap hgg; have hz3 := hb3.size; have hk3 : ∀ M, Keep M w w3 := fun M => (hk2 M).trans (Keep.of_below hb3) (fun _ _ h => h)))
  have kw3 := hk3 (fun _ => False)
  have r3' : Row (Made w w3) w3 5 1 v3 lx.length (bytesV lx) := r3.mono (fun k hk hl => ⟨by have := hk.1; omega, hl⟩)
  have hzw : w.heap.size + 1 < w3.heap.size := by omega
  clear cb fb cc fc cd fd ce fe hgb hgc hgd hge hk1 hk2 hbl hb2 hb3 hz1 hz2 hz3 r3 hk3 hck hfd hsl
  have hFl3 : ∀ k, F k → k < w3.heap.size := fun k hk => by have := (hFl k hk).2; omega
  have kd : ∀ {W : World}, Keep (fun _ => False) w3 W → Keep F w3 W := fun k => k.mono (fun _ _ h => h.elim)
  go_cut [10] (fun s10 wx => DoMid F w3 g r S' s10 wx)
  case first =>
    go_region_held3 (fun w' => w'.cell? ⟨w.heap.size, 0, none⟩ = some (.int .i64 8) ∧ w'.cell? ⟨w.heap.size, 1, none⟩ = some (.string nm) ∧ w'.cell? ⟨w.heap.size, 2, none⟩ = some (.string tx) ∧ w'.cell? ⟨w.heap.size, 3, none⟩ = some (.int .i64 num) ∧ w'.cell? ⟨w.heap.size, 4, none⟩ = some (.int .i64 most))
      (first | with_reducible exact cells5 hg5 | with_reducible exact cells5 hg4 | with_reducible exact cells5 hgf
             | with_reducible exact cells5 ((hp_alloc_lt (lt_of_heap hg5) _).trans hg5) | with_reducible exact cells5 ((hp_alloc_lt (lt_of_heap hg4) _).trans hg4) | with_reducible exact cells5 ((hp_alloc_lt (lt_of_heap hgf) _).trans hgf)
             | with_reducible exact cells5 ((heap_setCell_other (by simp; omega) _).trans ((heap_setCell_other (by simp; omega) _).trans ((heap_setCell_other (by simp; omega) _).trans hg5)))
             | go_keep)
      (first | (go_at_call 50; refine (doings_any _).mono ?_; rintro e w4 ⟨rfl, hb4⟩; have k4 : Keep (fun _ => False) w3 w4 := Keep.trans (by first | with_reducible exact (Keep.refl _ _).drew | with_reducible exact (Keep.refl _ _).drew.alloc _ | with_reducible exact ((Keep.refl _ _).alloc _).drew) (Keep.of_below (M := fun _ => False) hb4) (fun _ _ h => h); have hg4 := k4.heap hgf (fun h => h); have zk4 := k4.size; (try (have h10 : w4.heap[w3.heap.size]? = some (.cells #[.int .i64 0, .int .i64 0, .slice none 0 0] 28 (0, 0)) := (by first | exact (hb4.block w3.heap.size (by simp; done)).trans (heap_alloc_new w3 _) | exact (hb4.block w3.heap.size (by simp; done)).trans (heap_alloc_new w3.drew _)))); (try (have z10 : w3.heap.size < w4.heap.size := (lt_of_heap h10))))
             | (go_at_fn fn; refine (HDO.out F _ (h.keep (kw3.trans (M := fun _ => False) (N := fun _ => False) (by first | with_reducible exact k4 | with_reducible exact k4.alloc _) (fun _ _ h => h)) (fun _ _ h => h))).mono ?_; rintro e w5 ⟨v5, F5, rfl, r5, hs5, hF5, k5⟩; have k35 : Keep F w3 w5 := Keep.trans (by first | with_reducible exact k4.mono (fun _ _ h => h.elim) | with_reducible exact (k4.alloc _).mono (fun _ _ h => h.elim)) k5 (fun _ _ h => h); have hg5 := k35.heap hgf (fun h => by have := (hFl _ h).2; omega); obtain ⟨A5, c5, rfl⟩ := r5.form; (try (have h11 : w5.heap[w4.heap.size]? = some (.cells #[.int .i64 0, .int .i64 0, .slice none 0 0] 28 (0, 0)) := (by with_reducible exact k5.heap (heap_alloc_new w4 _) (fun h => by have := (hFl _ h).2; omega)))); (try (have h11 : w5.heap[w3.heap.size]? = some (.cells #[.int .i64 0, .int .i64 0, .slice none 0 0] 28 (0, 0)) := (by with_reducible exact k5.heap h10 (fun h => by have := (hFl _ h).2; omega)))); (try (have ⟨⟨d0, d1, d2⟩, e0, e1, e2⟩ := cells3 h11))))
    all_goals
      go_wp2_with fail
      go_meet
      first
        | with_reducible exact mid_new hFl3 (kd k4) k5 r5 hs5 hF5 _ rfl
        | with_reducible exact mid_old hFl3 (kd (k4.alloc _)) k5 r5 hs5 hF5 _ rfl zk4 (by simp) h11
        | with_reducible exact mid_old hFl3 (kd k4) k5 r5 hs5 hF5 _ rfl (Nat.le_refl _) z10 h11
  case rest =>
    obtain ⟨b, A, c, F', rfl, hb0, hlb, kx, rx, sx, hF'⟩ := hcut
    have zx := kx.size
    have hr0 := kx.heap hgg (fun h => by have := (hFl _ h).2; omega)
    have hx0 := kx.heap hgf (fun h => by have := (hFl _ h).2; omega)
    have src3 : Src wc 1 v3 lx.length (bytesV lx) := Src.of_row (r3'.keep (M := F) kx (fun k hk hF => by have := (hFl _ hF).2; have := hk.1; omega)) (bytesV_one _)
    clear cf ff cg fg hgf hgg
    obtain ⟨B3, n3, c3, rfl⟩ : ∃ B n c, v3 = .slice B n c := by obtain ⟨B, c, e⟩ := src3.form; exact ⟨B, _, c, e⟩
    have SRC := Lib.hid src3
    have RX := Lib.hid rx
    have SX := Lib.hid sx
    clear src3 rx sx r3'
    have hFx : ∀ k, F' k → F k ∨ (Made w3 wc k ∧ (Value.slice A r.items.length c).ownBlock ≠ some k) := fun k hk => (hF' k hk).1
    by_cases hxy : lx = ly
    · obtain rfl : kk = -1 := by rw [← HK.out, if_pos hxy]
      subst hxy
      clear HK
      go_wp2_with (first | (go_at_call 46; refine (HSL.out _ _ SX.out).mono ?_; rintro e w6 ⟨v6, rfl, r6, hb6⟩; have src6 := SRC.out.below hb6; have src6' := Src.of_row r6 (bytesV_one _); have hr6 := (hb6.block _ (lt_of_heap hr0)).trans hr0; have ⟨c6, f6⟩ := cells_of_heap hr6; have hm6 := (hb6.block _ (lt_of_heap hb0)).trans hb0; have ⟨m6, n6⟩ := cells_of_heap hm6)
                         | (go_at_call 51; refine (equal_any _ _ _ _ _ src6 src6').mono ?_; rintro e w7 ⟨rfl, rfl⟩; rw [beq_self_eq_true]))
      obtain ⟨w', hw', hh, hp⟩ := do_end (-1) hFl kw3 hzw kx RX.out SX.out hFx hb6 hr6
      rw [hw']
      have ⟨ch, _⟩ := cells_of_heap hh
      exact bodyPost_ret (v := .tuple #[.agg #[.int .i64 r.code, .int .i64 r.num, .slice A r.items.length c], .int .i64 (-1), .int .i64 0]) (by simp [results, Try.results12, go_sem, ch]) rfl hp
    · obtain rfl : kk = -1 := by rw [← HK.out, if_neg hxy]
      have hne : (lx == ly) = false := by simpa using hxy
      clear HK
      go_wp2_with (first | (go_at_call 46; refine (HSL.out _ _ SX.out).mono ?_; rintro e w6 ⟨v6, rfl, r6, hb6⟩; have src6 := SRC.out.below hb6; have src6' := Src.of_row r6 (bytesV_one _); have hr6 := (hb6.block _ (lt_of_heap hr0)).trans hr0; have ⟨c6, f6⟩ := cells_of_heap hr6; have hm6 := (hb6.block _ (lt_of_heap hb0)).trans hb0; have ⟨m6, n6⟩ := cells_of_heap hm6)
                         | (go_at_call 51; refine (equal_any _ _ _ _ _ src6 src6').mono ?_; rintro e w7 ⟨rfl, rfl⟩; rw [hne]))
      obtain ⟨w', hw', hh, hp⟩ := do_end (-1) hFl kw3 hzw kx RX.out SX.out hFx hb6 hr6
      rw [hw']
      have ⟨ch, _⟩ := cells_of_heap hh
      exact bodyPost_ret (v := .tuple #[.agg #[.int .i64 r.code, .int .i64 r.num, .slice A r.items.length c], .int .i64 (-1), .int .i64 0]) (by simp [results, Try.results12, go_sem, ch]) rfl hp
end Go.Proofs.Ytfahakmnlmlgcaa
