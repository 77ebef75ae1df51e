/-
  Contracts of the shelf's look-ups: find, and the first free slot.
-/
import Derived.Test.YtfahakmnlmlgcaaShelfC
namespace Go.Proofs.Ytfahakmnlmlgcaa
open Go.RowKit Go.Lib
set_option linter.unusedVariables false
set_option linter.unusedSimpArgs false

/-- The first slot of the eight of which a thing is true. -/
def firstK (p : Nat → Bool) : Option Nat := (List.range 8).find? p
/-- A place, or below 0 for none. -/
def optI : Option Nat → Int
  | some k => k
  | none => -1
theorem firstK_some {p : Nat → Bool} {k : Nat} (hk : k < 8) (h : p k = true) (hn : ∀ j, j < k → p j = false) : firstK p = some k := by
  rw [firstK, List.find?_eq_some_iff_getElem]
  refine ⟨h, k, by simpa using hk, by simp, fun j hj => by simp [hn j hj]⟩
theorem firstK_none {p : Nat → Bool} (hn : ∀ j, j < 8 → p j = false) : firstK p = none := by
  rw [firstK, List.find?_eq_none]
  intro x hx
  simp [hn x (by simpa using hx)]

theorem tl_inj {a b : ByteArray} (h : a.toList = b.toList) : a = b := by
  rw [ByteArray.toList_eq, ByteArray.toList_eq] at h
  cases a; cases b; simp at h; simp [h]
theorem tl_beq (a b : ByteArray) : (a.toList == b.toList) = (a == b) := by
  by_cases h : a = b
  · subst h; simp [bbeq_self]
  · rw [bbeq_ne h, beq_eq_false_iff_ne]; exact fun e => h (tl_inj e)

/-- The queue of that name lies in the slot. -/
def isQ (S : Nat → Option Qu) (name : ByteArray) (k : Nat) : Bool := match S k with
  | some q => q.name == name
  | none => false
def isFree (S : Nat → Option Qu) (k : Nat) : Bool := (S k).isNone

theorem find1_any (w : World) (u : Bool) (nm name : ByteArray) (f n c p : Nat) (A : Option Addr) (m : Option Nat) (hp : w.cell? ⟨p, 0, none⟩ = some (.string name)) (hl : p < w.heap.size) :
    Calls Try.prog 73 #[.agg #[.bool u, .string nm, .int .i64 f, .slice A n c, .map m], .pointer (some ⟨p, 0, none⟩)] w fun e w' => e = .returned (.bool (u && nm == name)) ∧ Below w.heap.size w w' := by
  have hp' : ∀ o, (w.alloc o).cell? ⟨p, 0, none⟩ = some (.string name) := fun o => by rw [World.cell?_alloc_lt _ _ _ hl]; exact hp
  rw [← tl_beq]
  cases u with
  | true =>
    go_enter Try.func73, Try.ntmps73
    go_wp2
    go_ret
    exact ⟨by simp, (Below.refl _ _).alloc (Nat.le_refl _) _⟩
  | false =>
    go_enter Try.func73, Try.ntmps73
    go_wp2
    go_ret
    exact ⟨by simp, (Below.refl _ _).alloc (Nat.le_refl _) _⟩

theorem free1_any (w : World) (u : Bool) (nm : ByteArray) (f n c : Nat) (A : Option Addr) (m : Option Nat) :
    Calls Try.prog 49 #[.agg #[.bool u, .string nm, .int .i64 f, .slice A n c, .map m]] w fun e w' => e = .returned (.bool (!u)) ∧ Below w.heap.size w w' := by
  go_enter Try.func49, Try.ntmps49
  go_wp2
  go_ret
  exact ⟨by simp, (Below.refl _ _).alloc (Nat.le_refl _) _⟩

theorem index_find (F : Nat → Prop) (w : World) (g : Nat) (S : Nat → Option Qu) (h : ShelfAt F w g S) (name : ByteArray) (p : Nat) (hp : w.cell? ⟨p, 0, none⟩ = some (.string name)) (hl : p < w.heap.size) :
    Calls Try.prog 48 #[.slice (some ⟨g, 0, none⟩) 8 8, .func (.func 73) #[] #[.pointer (some ⟨p, 0, none⟩)]] w fun e w' => e = .returned (.int .i64 (optI (firstK (isQ S name)))) ∧ Below w.heap.size w w' := by
  go_enter Try.func48, Try.ntmps48
  go_wp2_with fail
  go_loopw [8] (fun u wr => ∃ k : Nat, k ≤ 8 ∧ u = .int .i64 k ∧ (∀ j, j < k → isQ S name j = false) ∧ Below w.heap.size w wr) (fun u _ => 8 - (intOf u).toNat)
  case atStart => exact ⟨0, by omega, rfl, fun j hj => absurd hj (by omega), Below.refl _ _⟩
  case round =>
    obtain ⟨k, hk8, rfl, hno0, hk⟩ := hrel
    have hno := Lib.hid hno0
    clear hno0
    have hsz := hk.size
    have hpr : wr.cell? ⟨p, 0, none⟩ = some (.string name) := (World.cell?_of_block (hk.block p hl)).trans hp
    by_cases hlt : k < 8
    · obtain ⟨cs, s, hc, hf, h0, h1, h2, h3, h4, hs⟩ := (h.keep (Keep.of_below (M := fun _ => False) hk) (fun _ _ h => h)).slot k hlt
      have HS := Lib.hid hs
      clear hs
      go_wp2_with fail
      refine (find1_any _ _ _ name _ _ _ p _ _ hpr (by omega)).mono ?_
      rintro e w2 ⟨rfl, hb2⟩
      have hval : (s.used && s.name == name) = isQ S name k := by
        have hs := HS.out
        cases hq : S k with
        | none =>
          rw [hq] at hs
          obtain rfl : s = SC.zero := hs
          simp [isQ, isFree, hq, SC.zero]
        | some q =>
          rw [hq] at hs
          obtain ⟨s1, s2, _⟩ := hs
          simp [isQ, isFree, hq, s1, s2]
      rw [hval]
      cases hpk : isQ S name k with
      | true =>
        go_wp2
        go_ret
        exact ⟨by rw [firstK_some hlt hpk hno.out]; rfl, hk.trans (hb2.mono hsz)⟩
      | false =>
        go_wp2
        go_roundw
        case rel =>
          refine ⟨k + 1, by omega, by go_num, fun j hj => ?_, hk.trans (hb2.mono hsz)⟩
          by_cases hjk : j = k
          · rw [hjk]; exact hpk
          · exact hno.out j (by omega)
        case measure => simp [intOf]; omega
    · obtain rfl : k = 8 := by omega
      go_wp2
      go_ret
      exact ⟨by rw [firstK_none hno.out]; rfl, hk⟩
theorem index_free (F : Nat → Prop) (w : World) (g : Nat) (S : Nat → Option Qu) (h : ShelfAt F w g S)  :
    Calls Try.prog 48 #[.slice (some ⟨g, 0, none⟩) 8 8, .func (.func 49) #[] #[]] w fun e w' => e = .returned (.int .i64 (optI (firstK (isFree S)))) ∧ Below w.heap.size w w' := by
  go_enter Try.func48, Try.ntmps48
  go_wp2_with fail
  go_loopw [8] (fun u wr => ∃ k : Nat, k ≤ 8 ∧ u = .int .i64 k ∧ (∀ j, j < k → isFree S j = false) ∧ Below w.heap.size w wr) (fun u _ => 8 - (intOf u).toNat)
  case atStart => exact ⟨0, by omega, rfl, fun j hj => absurd hj (by omega), Below.refl _ _⟩
  case round =>
    obtain ⟨k, hk8, rfl, hno0, hk⟩ := hrel
    have hno := Lib.hid hno0
    clear hno0
    have hsz := hk.size
    skip
    by_cases hlt : k < 8
    · obtain ⟨cs, s, hc, hf, h0, h1, h2, h3, h4, hs⟩ := (h.keep (Keep.of_below (M := fun _ => False) hk) (fun _ _ h => h)).slot k hlt
      have HS := Lib.hid hs
      clear hs
      go_wp2_with fail
      refine (free1_any _ _ _ _ _ _ _ _).mono ?_
      rintro e w2 ⟨rfl, hb2⟩
      have hval : (!s.used) = isFree S k := by
        have hs := HS.out
        cases hq : S k with
        | none =>
          rw [hq] at hs
          obtain rfl : s = SC.zero := hs
          simp [isQ, isFree, hq, SC.zero]
        | some q =>
          rw [hq] at hs
          obtain ⟨s1, s2, _⟩ := hs
          simp [isQ, isFree, hq, s1, s2]
      rw [hval]
      cases hpk : isFree S k with
      | true =>
        go_wp2
        go_ret
        exact ⟨by rw [firstK_some hlt hpk hno.out]; rfl, hk.trans (hb2.mono hsz)⟩
      | false =>
        go_wp2
        go_roundw
        case rel =>
          refine ⟨k + 1, by omega, by go_num, fun j hj => ?_, hk.trans (hb2.mono hsz)⟩
          by_cases hjk : j = k
          · rw [hjk]; exact hpk
          · exact hno.out j (by omega)
        case measure => simp [intOf]; omega
    · obtain rfl : k = 8 := by omega
      go_wp2
      go_ret
      exact ⟨by rw [firstK_none hno.out]; rfl, hk⟩

theorem find_any (F : Nat → Prop) (w : World) (g : Nat) (S : Nat → Option Qu) (h : ShelfAt F w g S) (name : ByteArray) :
    Calls Try.prog 47 #[.pointer (some ⟨g, 0, none⟩), .string name] w fun e w' => e = .returned (.int .i64 (optI (firstK (isQ S name)))) ∧ Below w.heap.size w w' := by
  have hmf : ∀ (fn : Fn) (first cap : Array Value) (w : World), (Instr.makeFunc fn first cap).run Try.prog w = .ok (.func fn first cap) w := fun _ _ _ _ => rfl
  have hg := h.lt
  go_enter Try.func47, Try.ntmps47
  go_wp2_with (go_at_call 48; refine (index_find F _ g S (h.keep ((Keep.refl (fun _ => False) w).alloc _) (fun _ _ h => h)) name w.heap.size (by simp) (by simp)).mono ?_; rintro e w2 ⟨rfl, hb2⟩)
  go_ret
  exact ⟨rfl, ((Below.refl _ _).alloc (Nat.le_refl _) _).trans (hb2.mono (by simp))⟩
end Go.Proofs.Ytfahakmnlmlgcaa
