/-
  The examples at the head of all statements: shown answers true.
-/
import Derived.Test.YtfahakmnlmlgcaaDoS
import Derived.Test.YtfahakmnlmlgcaaSame
import Derived.Test.YtfahakmnlmlgcaaShelfB
namespace Go.Proofs.Ytfahakmnlmlgcaa
open Go.RowKit Go.Lib
set_option linter.unusedVariables false
set_option linter.unusedSimpArgs false

theorem varint_small {x : Nat} (h : x ≤ 127) : varint x = [UInt8.ofNat x] := by rw [varint, dif_neg (by omega)]

def bA : ByteArray := ⟨#[97]⟩
def bX : ByteArray := ⟨#[120]⟩
def bG : ByteArray := ⟨#[103]⟩
def shS0 : Nat → Option Qu := fun _ => none
def shS1 : Nat → Option Qu := put shS0 0 (some ⟨bA, 0, [], []⟩)
def shS2 : Nat → Option Qu := put shS1 0 (some ⟨bA, 0, [bX], []⟩)
def shS3 : Nat → Option Qu := put shS2 0 (some ⟨bA, 0, [bX], [(bG, 1)]⟩)
def shO1 : OpS := ⟨1, bA, ⟨#[]⟩, 0, 0⟩
def shO2 : OpS := ⟨3, bA, bX, 0, 0⟩
def shO3 : OpS := ⟨5, bA, bG, 0, 0⟩

theorem shB0 : slotB (shS0 0) = [] := rfl
theorem shB1 : slotB (shS1 0) = [1, 97, 0, 0, 0] := by
  show tb bA ++ varint 0 ++ varint 0 ++ [].flatMap tb ++ varint 0 ++ (srtK (·.1) ([] : List (ByteArray × Nat))).flatMap gb = _
  simp [tb, srtK, varint_small, bA, ByteArray.size]
theorem shB2 : slotB (shS2 0) = [1, 97, 0, 1, 1, 120, 0] := by
  show tb bA ++ varint 0 ++ varint 1 ++ [bX].flatMap tb ++ varint 0 ++ (srtK (·.1) ([] : List (ByteArray × Nat))).flatMap gb = _
  simp [tb, srtK, varint_small, bA, bX, ByteArray.size]
theorem shB3 : slotB (shS3 0) = [1, 97, 0, 1, 1, 120, 1, 1, 103, 1] := by
  show tb bA ++ varint 0 ++ varint 1 ++ [bX].flatMap tb ++ varint 1 ++ (srtK (·.1) [(bG, 1)]).flatMap gb = _
  have : srtK (·.1) [(bG, 1)] = [(bG, 1)] := rfl
  rw [this]
  simp [tb, gb, varint_small, bA, bX, bG, ByteArray.size]

theorem sh1 : doS shS0 shO1 = ⟨⟨0, 0, []⟩, 0, 0, shS1⟩ := by
  have hf : firstK (isQ shS0 shO1.name) = none := rfl
  have hr : firstK (isFree shS0) = some 0 := rfl
  have ha : act shS0 0 shO1 = (⟨0, 0, []⟩, shS1) := rfl
  rw [doS, if_neg (by decide), if_neg (by decide), hf]
  simp only
  rw [if_pos (show shO1.kind = 1 from rfl), hr]
  simp only [ha]
  rw [if_neg (by rw [shB0, shB1]; decide)]; rfl
theorem sh2 : doS shS1 shO2 = ⟨⟨0, 0, []⟩, 0, 0, shS2⟩ := by
  have hf : firstK (isQ shS1 shO2.name) = some 0 := rfl
  have ha : act shS1 0 shO2 = (⟨0, 0, []⟩, shS2) := rfl
  rw [doS, if_neg (by decide), if_neg (by decide), hf]
  simp only
  rw [if_neg (by decide)]
  simp only [ha]
  rw [if_neg (by rw [shB1, shB2]; decide)]; rfl
theorem sh3 : doS shS2 shO3 = ⟨⟨0, 0, [bX]⟩, 0, 0, shS3⟩ := by
  have hf : firstK (isQ shS2 shO3.name) = some 0 := rfl
  have ha : act shS2 0 shO3 = (⟨0, 0, [bX]⟩, shS3) := rfl
  rw [doS, if_neg (by decide), if_neg (by decide), hf]
  simp only
  rw [if_neg (by decide)]
  simp only [ha]
  rw [if_neg (by rw [shB2, shB3]; decide)]; rfl

theorem good_none : GoodS (fun _ => none) := ⟨fun _ _ _ h => (by cases h), fun _ _ _ _ _ _ h => (by cases h)⟩
theorem good1 : GoodS shS1 := by have := doS_good good_none shO1; rwa [show doS (fun _ => none) shO1 = _ from sh1] at this
theorem good2 : GoodS shS2 := by have := doS_good good1 shO2; rwa [sh2] at this
theorem good3 : GoodS shS3 := by have := doS_good good2 shO3; rwa [sh3] at this

theorem call1 (F : Nat → Prop) (w : World) (g : Nat) (h : ShelfAt F w g (fun _ => none)) : Calls Try.prog 12 #[.pointer (some ⟨g, 0, none⟩), .agg #[.int .i64 1, .string ⟨#[97]⟩, .string ⟨#[]⟩, .int .i64 0, .int .i64 0]] w (DoneP F w g ⟨⟨0, 0, []⟩, 0, 0, shS1⟩) := by
  have := do_any F w g _ shO1 h good_none
  rwa [show doS (fun _ => none) shO1 = _ from sh1] at this
theorem call2 (F : Nat → Prop) (w : World) (g : Nat) (h : ShelfAt F w g shS1) : Calls Try.prog 12 #[.pointer (some ⟨g, 0, none⟩), .agg #[.int .i64 3, .string ⟨#[97]⟩, .string ⟨#[120]⟩, .int .i64 0, .int .i64 0]] w (DoneP F w g ⟨⟨0, 0, []⟩, 0, 0, shS2⟩) := by
  have := do_any F w g _ shO2 h good1
  rwa [sh2] at this
theorem call3 (F : Nat → Prop) (w : World) (g : Nat) (h : ShelfAt F w g shS2) : Calls Try.prog 12 #[.pointer (some ⟨g, 0, none⟩), .agg #[.int .i64 5, .string ⟨#[97]⟩, .string ⟨#[103]⟩, .int .i64 0, .int .i64 0]] w (DoneP F w g ⟨⟨0, 0, [bX]⟩, 0, 0, shS3⟩) := by
  have := do_any F w g _ shO3 h good2
  rwa [sh3] at this

/-- A list written out. -/
theorem Src.lit (w : World) (t : TypeId) (cs : Array Value) (l : List Value) (n : Nat) (hl : cs.toList = l) (hn : cs.size = n) (h1 : cs.toList.all (·.oneCell') = true) : Src (w.alloc (.cells cs t)) 1 (.slice (some ⟨w.heap.size, 0, none⟩) n n) n l := by
  subst hl; subst hn
  refine ⟨by simp, List.all_eq_true.1 h1, _, _, rfl, .inr ⟨_, _, rfl, fun j u hu => ?_⟩⟩
  rw [cell_of_row _ w.heap.size (0 + j) cs t (0, 0) (heap_alloc_new w _)]
  simpa using hu

/-- Three cells written. -/
theorem set3 {w : World} {b : Nat} {x y z p q r : Value} {e : TypeId} (h : w.heap[b]? = some (.cells #[x, y, z] e (0, 0))) :
    ∃ W, ((w.setCell ⟨b, 0, none⟩ p).setCell ⟨b, 1, none⟩ q).setCell ⟨b, 2, none⟩ r = W ∧ W.heap[b]? = some (.cells #[p, q, r] e (0, 0)) ∧ Keep (fun k => k = b) w W ∧ W.heap.size = w.heap.size := by
  have hh := heap_setCell (o := 2) (heap_setCell (o := 1) (heap_setCell (o := 0) h p) q) r
  exact ⟨_, rfl, by simpa using hh, (((Keep.refl (fun k => k = b) w).setCell (a := ⟨b, 0, none⟩) (.inl rfl) _).setCell (a := ⟨b, 1, none⟩) (.inl rfl) _).setCell (a := ⟨b, 2, none⟩) (.inl rfl) _, by simp [World.setCell]⟩

set_option maxRecDepth 100000 in
set_option maxHeartbeats 1000000 in
theorem shown_any (w : World) : Calls Try.prog 10 #[] w fun e w' => e = .returned (.bool true) ∧ Below w.heap.size w w' := by
  go_enter Try.func10, Try.ntmps10
  go_wp2_with fail
  refine (new_shelf _).mono ?_
  rintro e w1 ⟨rfl, s1, b1⟩
  go_wp2_with fail
  refine (call1 _ _ _ s1).mono ?_
  rintro e w2 ⟨A2, c2, F2, rfl, r2, s2, f2, k2⟩
  simp only [Ans.r, List.length_nil] at r2 s2 f2 ⊢
  have z1 := b1.size
  have z2 := k2.size
  have l2 : ∀ k, F2 k → w.heap.size ≤ k ∧ k < w2.heap.size := fun k hk => by
    rcases f2 k hk with h | h
    · exact ⟨h.1, by have := h.2; omega⟩
    · exact ⟨by have := h.1.1; omega, h.1.2⟩
  have kb2 : Below w.heap.size w w2 := b1.trans (k2.belowB z1 (fun k hk h => by have := h.1; omega))
  go_wp2_with fail
  refine (call2 _ _ _ (s2.keep ((Keep.refl (fun _ => False) w2).alloc _) (fun _ _ h => h))).mono ?_
  rintro e w3 ⟨A3, c3, F3, rfl, r3, s3, f3, k3⟩
  simp only [Ans.r, List.length_nil] at r3 s3 f3 ⊢
  have z3 := k3.size
  simp at z3
  have t3 := k3.heap (heap_alloc_new w2 _) (fun h => by have := (l2 _ h).2; omega)
  have ⟨⟨d0, d1, d2⟩, e0, e1, e2⟩ := cells3 t3
  have l3 : ∀ k, F3 k → w.heap.size ≤ k ∧ k < w3.heap.size ∧ k ≠ w2.heap.size := fun k hk => by
    rcases f3 k hk with h | h
    · have := l2 k h; exact ⟨by omega, by omega, by omega⟩
    · have h1 := h.1.1; have h2 := h.1.2; simp at h1; exact ⟨by omega, by omega, by omega⟩
  have kb3 : Below w.heap.size w w3 := kb2.trans ((((Keep.refl F2 w2).alloc _).trans k3 (fun _ _ h => h)).belowB (by omega) (fun k hk h => by have := (l2 k h).1; omega))
  go_wp2_with fail
  obtain ⟨W3, hW3, tW3, kW3, zW3⟩ := set3 (p := .int .i64 0) (q := .int .i64 0) (r := .slice A3 0 c3) t3
  rw [hW3]
  clear d0 d1 d2 e0 e1 e2
  refine (call3 _ _ _ (s3.keep kW3 (fun k hk => (l3 k hk).2.2))).mono ?_
  rintro e w4 ⟨A4, c4, F4, rfl, r4, s4, f4, k4⟩
  simp only [Ans.r, List.length_cons, List.length_nil, Nat.zero_add] at r4 s4 f4 ⊢
  have z4 := k4.size
  have t4 := k4.heap tW3 (fun h => (l3 _ h).2.2 rfl)
  have ⟨⟨d0, d1, d2⟩, e0, e1, e2⟩ := cells3 t4
  have l4 : ∀ k, F4 k → w.heap.size ≤ k ∧ k ≠ w2.heap.size := fun k hk => by
    rcases f4 k hk with h | h
    · have := l3 k h; exact ⟨by omega, by omega⟩
    · have h1 := h.1.1; exact ⟨by omega, by omega⟩
  have kb4 : Below w.heap.size w w4 := (kb3.trans (kW3.belowB (by omega) (fun k hk h => by omega))).trans (k4.belowB (by omega) (fun k hk h => by have := (l3 k h).1; omega))
  obtain ⟨W4, hW4, tW4, kW4, zW4⟩ := set3 (p := .int .i64 0) (q := .int .i64 0) (r := .slice A4 1 c4) t4
  have s4' := s4.keep kW4 (fun k hk => (l4 k hk).2)
  have r4' : Src W4 1 (.slice A4 1 c4) 1 [.string bX] := Src.of_row (r4.keep kW4 (fun k hk h => by have := hk.1; omega)) (textsV_one [bX])
  have kb5 : Below w.heap.size w W4 := kb4.trans (kW4.belowB (by omega) (fun k hk h => by omega))
  have S4 := Lib.hid s4'
  have R4 := Lib.hid r4'
  clear r4 s4' r4' s4 r2 r3 s1 s2 s3
  go_upto_region 11 with fail
  clear hW4 hW3 d0 d1 d2 e0 e1 e2
  have ⟨⟨g0, g1, g2⟩, _, _, _⟩ := cells3 tW4
  go_wp2_with fail
  refine (sameResult_any _ 0 0 0 0 [bX] [bX] _ _ (R4.out.alloc _) (Src.oneAt W4 bX _ w4.heap.size zW4.symm) (by decide) (by decide)).mono ?_
  rintro e w5 ⟨rfl, hb5⟩
  have hd : decide ((0 : Int) = 0 ∧ (0 : Int) = 0 ∧ [bX] = [bX]) = true := by simp
  rw [hd]
  have k5 : Keep (fun _ => False) W4 w5 := ((Keep.refl _ _).alloc _).trans (Keep.of_below hb5) (fun _ _ h => h)
  have z5 := k5.size
  have ZW4 : w.heap.size ≤ W4.heap.size := by omega
  clear zW4 g0 g1 g2 tW4
  go_wp2_with fail
  refine (slot_any F4 _ _ 0 shS3 (S4.out.keep k5 (fun _ _ h => h)) good3).mono ?_
  rintro e w6 ⟨v6, rfl, r6, hb6⟩
  have z6 := hb6.size
  have src6 := Src.of_row r6 (bytesV_one _)
  have e6 : slotI shS3 0 = [1, 97, 0, 1, 1, 120, 1, 1, 103, 1] := by rw [show slotI shS3 0 = slotB (shS3 0) from rfl, shB3]
  rw [e6] at src6
  obtain ⟨B6, d6, rfl⟩ := src6.form
  have SR6 := Lib.hid src6
  clear src6 r6 e6 hd
  go_wp2_with fail
  refine (same_any _ _ [1, 97, 0, 1, 1, 120, 1, 1, 103, 1] _ _ (SR6.out.alloc _) (Src.lit w6 _ _ _ 10 rfl rfl rfl) (by decide) (by decide)).mono ?_
  rintro e w7 ⟨rfl, hb7⟩
  have hd : decide (([1, 97, 0, 1, 1, 120, 1, 1, 103, 1] : List UInt8) = [1, 97, 0, 1, 1, 120, 1, 1, 103, 1]) = true := by simp
  rw [hd]
  clear hd
  go_wp2_with fail
  go_ret
  refine ⟨rfl, ?_⟩
  have k7 : Keep (fun _ => False) w6 w7 := ((Keep.refl _ _).alloc _).trans (Keep.of_below hb7) (fun _ _ h => h)
  exact ((kb5.trans (k5.belowB (by omega) (fun _ _ h => h))).trans (hb6.mono (by omega))).trans (k7.belowB (by omega) (fun _ _ h => h))
end Go.Proofs.Ytfahakmnlmlgcaa
