/-
  Contracts of the laws' slots and sameSlots.
-/
import Derived.Test.YtfahakmnlmlgcaaSameQ
import Derived.Test.YtfahakmnlmlgcaaDo
namespace Go.Proofs.Ytfahakmnlmlgcaa
open Go.RowKit Go.Lib
set_option linter.unusedVariables false
set_option linter.unusedSimpArgs false

/-- The values vs read as the lists of bytes ls, one by one. -/
def SrcsAt (w : World) (vs : List Value) (ls : List (List UInt8)) : Prop := vs.length = ls.length ∧ ∀ (i : Nat) (v : Value) (l : List UInt8), vs[i]? = some v → ls[i]? = some l → Src w 1 v l.length (bytesV l)
/-- The values vs own the lists of bytes ls. -/
def RowsAt (F : Nat → Prop) (w : World) (vs : List Value) (ls : List (List UInt8)) : Prop := vs.length = ls.length ∧ ∀ (i : Nat) (v : Value) (l : List UInt8), vs[i]? = some v → ls[i]? = some l → Row F w 5 1 v l.length (bytesV l)
/-- The value v is a list of lists of bytes. -/
def BytesAt (w : World) (v : Value) (ls : List (List UInt8)) : Prop := ∃ vs : List Value, Src w 1 v ls.length vs ∧ SrcsAt w vs ls

theorem RowsAt.keep {F M : Nat → Prop} {w w' : World} {vs : List Value} {ls : List (List UInt8)} (h : RowsAt F w vs ls) (k : Keep M w w') (hm : ∀ b, F b → ¬ M b) : RowsAt F w' vs ls := ⟨h.1, fun i v l h1 h2 => (h.2 i v l h1 h2).keep k hm⟩
theorem RowsAt.mono {F G : Nat → Prop} {w : World} {vs : List Value} {ls : List (List UInt8)} (h : RowsAt F w vs ls) (hm : ∀ b, F b → b < w.heap.size → G b) : RowsAt G w vs ls := ⟨h.1, fun i v l h1 h2 => (h.2 i v l h1 h2).mono hm⟩
theorem RowsAt.keepRow {F G : Nat → Prop} {w w' : World} {vs : List Value} {ls : List (List UInt8)} {e size n : Nat} {v : Value} {xs : List Value} (h : RowsAt F w vs ls) (r : Row G w e size v n xs) (hne : 5 ≠ e) (k : Keep (fun k => v.ownBlock = some k) w w') : RowsAt F w' vs ls :=
  ⟨h.1, fun i u l h1 h2 => by
    have r1 := h.2 i u l h1 h2
    exact ⟨k.row r1.1 (fun b hb hv => by
      rcases r1.1.2 with ⟨rfl, _⟩ | ⟨g, cap, cur, rfl, _, hh, _⟩
      · simp [Value.ownBlock] at hb
      · have : g = b := by simpa [Value.ownBlock] using hb
        subst this
        exact r.ne_block hh (fun e => hne e.symm) hv), r1.2⟩⟩
theorem RowsAt.push {F : Nat → Prop} {w : World} {vs : List Value} {ls : List (List UInt8)} (h : RowsAt F w vs ls) {v : Value} {l : List UInt8} (r : Row F w 5 1 v l.length (bytesV l)) : RowsAt F w (vs ++ [v]) (ls ++ [l]) := by
  refine ⟨by simp [h.1], fun i u m h1 h2 => ?_⟩
  by_cases hi : i < vs.length
  · rw [List.getElem?_append_left hi] at h1
    rw [List.getElem?_append_left (by rw [← h.1]; exact hi)] at h2
    exact h.2 i u m h1 h2
  · rw [List.getElem?_append_right (by omega)] at h1
    rw [List.getElem?_append_right (by rw [← h.1]; omega)] at h2
    have h0 : i - vs.length = 0 := by
      have := (List.getElem?_eq_some_iff.1 h1).1
      simp at this; omega
    rw [h0] at h1
    rw [← h.1, h0] at h2
    simp at h1 h2
    subst h1; subst h2
    exact r
theorem RowsAt.src {F : Nat → Prop} {w : World} {vs : List Value} {ls : List (List UInt8)} (h : RowsAt F w vs ls) : SrcsAt w vs ls := ⟨h.1, fun i v l h1 h2 => Src.of_row (h.2 i v l h1 h2) (bytesV_one l)⟩
theorem RowsAt.one {F : Nat → Prop} {w : World} {vs : List Value} {ls : List (List UInt8)} (h : RowsAt F w vs ls) : ∀ u ∈ vs, u.oneCell' = true := by
  intro u hu
  obtain ⟨i, hi, rfl⟩ := List.mem_iff_getElem.1 hu
  have := h.2 i vs[i] (ls[i]'(by rw [← h.1]; exact hi)) (List.getElem?_eq_getElem hi) (List.getElem?_eq_getElem _)
  obtain ⟨A, c, e⟩ := this.form
  rw [e]; rfl
theorem SrcsAt.keepAll {w w' : World} {vs : List Value} {ls : List (List UInt8)} (h : SrcsAt w vs ls) (hk : ∀ a u, w.cell? a = some u → w'.cell? a = some u) : SrcsAt w' vs ls := ⟨h.1, fun i v l h1 h2 => (h.2 i v l h1 h2).keepAll hk⟩
theorem SrcsAt.below {w w' : World} {vs : List Value} {ls : List (List UInt8)} (h : SrcsAt w vs ls) (hb : Below w.heap.size w w') : SrcsAt w' vs ls := ⟨h.1, fun i v l h1 h2 => (h.2 i v l h1 h2).below hb⟩
theorem BytesAt.below {w w' : World} {v : Value} {ls : List (List UInt8)} (h : BytesAt w v ls) (hb : Below w.heap.size w w') : BytesAt w' v ls := let ⟨vs, h1, h2⟩ := h; ⟨vs, h1.below hb, h2.below hb⟩

theorem Try.infoBytes : (Try.prog.info? 49).map (fun i => (i.zero, i.size, i.bytes)) = some (some (.slice none 0 0), 1, 24) := by kernel_rfl

/-- A shelf's slots as bytes. -/
def slotsUp (S : Nat → Option Qu) (k : Nat) : List (List UInt8) := (List.range k).map fun i => slotB (S i)
theorem slotsUp_succ (S : Nat → Option Qu) (k : Nat) : slotsUp S (k + 1) = slotsUp S k ++ [slotB (S k)] := by simp [slotsUp, List.range_succ]
theorem slotsUp_length (S : Nat → Option Qu) (k : Nat) : (slotsUp S k).length = k := by simp [slotsUp]
theorem slotsUp_get (S : Nat → Option Qu) (k i : Nat) (h : i < k) : (slotsUp S k)[i]? = some (slotB (S i)) := by simp [slotsUp, h]
theorem slotsUp_eq (S T : Nat → Option Qu) (k : Nat) : slotsUp S k = slotsUp T k ↔ ∀ i, i < k → slotB (S i) = slotB (T i) := by
  constructor
  · intro h i hi
    have := slotsUp_get S k i hi
    rw [h, slotsUp_get T k i hi] at this
    exact (Option.some.inj this).symm
  · intro h
    unfold slotsUp
    exact List.map_congr_left (fun i hi => h i (by simpa using hi))

theorem Row.empty (w : World) (e : TypeId) (size : Nat) : Row (Made w (w.alloc (.cells #[] e))) (w.alloc (.cells #[] e)) e size (.slice (some ⟨w.heap.size, 0, none⟩) 0 0) 0 [] :=
  ⟨⟨by simp, .inr ⟨w.heap.size, 0, #[], rfl, Nat.zero_le _, heap_alloc_new w _, by simp, by simp, by simp, by simp⟩⟩, fun k hk => by
    simp [Value.ownBlock] at hk; subst hk; exact ⟨Nat.le_refl _, by simp⟩⟩
theorem slotI_at' (S : Nat → Option Qu) (i : Nat) (hi : i < 8) : slotI S (i : Int) = slotB (S i) := by rw [slotI, if_pos (by omega)]; simp

set_option maxHeartbeats 1000000 in
theorem slots_any (F : Nat → Prop) (w : World) (g : Nat) (S : Nat → Option Qu) (h : ShelfAt F w g S) (hG : GoodS S) :
    Calls Try.prog 21 #[.pointer (some ⟨g, 0, none⟩)] w fun e w' => ∃ v, e = .returned v ∧ BytesAt w' v (slotsUp S 8) ∧ Below w.heap.size w w' := by
  obtain ⟨i0, hi0, iz0, iz1, iz2⟩ := info_parts Try.infoBytes
  go_enter Try.func21, Try.ntmps21
  go_wp2_with fail
  go_loopw [3, 4] (fun v i wr => ∃ k : Nat, k ≤ 8 ∧ i = .int .i64 k ∧ ∃ vs, Row (Made w wr) wr 49 1 v k vs ∧ RowsAt (Made w wr) wr vs (slotsUp S k) ∧ Below w.heap.size w wr) (fun _ i _ => 8 - (intOf i).toNat)
  case atStart => exact ⟨0, by omega, rfl, [], Row.empty w _ 1, ⟨rfl, by simp⟩, (Below.refl _ _).alloc (Nat.le_refl _) _⟩
  case round =>
    obtain ⟨k, hk, rfl, vs, hr, hvs, hb⟩ := hrel
    have hsz := hb.size
    obtain ⟨A, c, rfl⟩ := hr.form
    have hsh := h.keep (Keep.of_below (M := fun _ => False) hb) (fun _ _ h => h)
    by_cases hlt : k < 8
    · have hlt' : (k : Int) < 8 := by omega
      have hsl := slot_any F wr g k S hsh hG
      rw [slotI_at' S k hlt] at hsl
      go_wp2_with fail
      refine hsl.mono ?_
      rintro e w2 ⟨v2, rfl, r2, hb2⟩
      have z2 := hb2.size
      obtain ⟨A2, c2, rfl⟩ := r2.form
      have hr2 := hr.keep (Keep.of_below (M := fun _ => False) hb2) (fun _ _ h => h)
      have hvs2 := hvs.keep (Keep.of_below (M := fun _ => False) hb2) (fun _ _ h => h)
      have hall : RowsAt (Made w w2) w2 (vs ++ [.slice A2 (slotB (S k)).length c2]) (slotsUp S k ++ [slotB (S k)]) :=
        RowsAt.push (hvs2.mono (fun b hb _ => ⟨hb.1, by have := hb.2; omega⟩)) (r2.mono (fun b hb _ => ⟨by have := hb.1; omega, hb.2⟩))
      generalize (slotB (S k)).length = n2 at hall r2 ⊢
      have HALL := Lib.hid hall
      have HB := Lib.hid (hb.trans (hb2.mono hsz))
      clear hall r2 hvs hvs2 hr hsl hsh
      go_wp2_with (at_builtin; refine wpList_app rfl _ _ 43 rfl 49 i0 (.slice none 0 0) 1 24 Try.underlying43 hi0 iz0 iz1 iz2 rfl (by decide) (hr2.alloc _) (Src.one _ _ _ rfl) rfl rfl ?c1 ?c2 ?_)
      case c1 => unfold maxLen; omega
      case c2 => omega
      intro A3 c3 w3 hr3 hg3
      have k3 : Keep (fun k' => (Value.slice A k c).ownBlock = some k') w2 w3 := ((Keep.refl _ w2).alloc _).grown hg3 (fun b hb => .inl hb)
      have z3 := k3.size
      go_wp2
      go_roundw
      case rel =>
        refine ⟨k + 1, by omega, by go_num, _, hr3.mono (fun b hb hl => ?_), ?_, HB.out.trans (k3.belowB (by omega) (fun b hb e => ?_))⟩
        · rcases hb with hb | hb
          · exact ⟨hb.1, hl⟩
          · exact ⟨by have := hb.1; simp at this; omega, hl⟩
        · rw [slotsUp_succ]
          exact (HALL.out.keepRow hr2 (by decide) k3).mono (fun b hb hl => ⟨hb.1, hl⟩)
        · have := (hr2.2 b e).1; omega
      case measure => simp [intOf]; omega
    · obtain rfl : k = 8 := by omega
      go_wp2_with fail
      go_ret
      exact ⟨_, rfl, ⟨vs, by rw [slotsUp_length]; exact Src.of_row hr hvs.one, hvs.src⟩, hb⟩
end Go.Proofs.Ytfahakmnlmlgcaa
