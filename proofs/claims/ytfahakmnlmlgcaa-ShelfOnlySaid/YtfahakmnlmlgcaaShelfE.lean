/-
  Contracts of slices.Clone of texts, cmp.Compare of texts, and of the shelf's read.
-/
import Derived.Test.YtfahakmnlmlgcaaShelfC
import Derived.WalkSpells
import Derived.Deep.RegionLaw
namespace Go.Proofs.Ytfahakmnlmlgcaa
open Go.RowKit Go.Lib
set_option linter.unusedVariables false
set_option linter.unusedSimpArgs false


theorem textsV_one' (l : List ByteArray) : ∀ u ∈ textsV l, u.oneCell' = true := by
  intro u hu
  simp only [textsV, List.mem_map] at hu
  obtain ⟨b, _, rfl⟩ := hu
  rfl

/-- A list of texts cloned: in new memory. -/
theorem clone_any (w : World) (v : Value) (l : List ByteArray) (h : Src w 1 v l.length (textsV l)) (hl : l.length ≤ 2000000000000) :
    Calls Try.prog 65 #[v] w fun e w' => ∃ v', e = .returned v' ∧ Row (Made w w') w' 9 1 v' l.length (textsV l) ∧ Below w.heap.size w w' := by
  obtain ⟨i0, hi0, iz0, iz1, iz2⟩ := info_parts Try.infoString
  have hh := h
  obtain ⟨_, _, A, c, rfl, hA⟩ := h
  cases A with
  | none =>
    have h0 : l.length = 0 := by
      rcases hA with h | ⟨b, o, h, _⟩
      · exact h
      · cases h
    obtain rfl : l = [] := List.eq_nil_of_length_eq_zero h0
    clear hA hh
    have he := fun W : World => Lib.run_eql_slice_nil (P := Try.prog) W 26 9 (none : Option Addr) 0 c 0 0 Try.underlying26
    go_enter Try.func65, Try.ntmps65
    go_wp2
    go_ret
    exact ⟨_, rfl, Row.nil _ _ _ _, Below.refl _ _⟩
  | some ad =>
    have he := fun W : World => Lib.run_eql_slice_nil (P := Try.prog) W 26 9 (some ad) l.length c 0 0 Try.underlying26
    obtain ⟨n, hn⟩ : ∃ n, l.length = n := ⟨_, rfl⟩
    rw [hn] at he hl hh ⊢
    clear hA hn
    have r0 : Row (Made w (w.alloc (.cells #[] 9))) (w.alloc (.cells #[] 9)) 9 1 (.slice (some ⟨w.heap.size, 0, none⟩) 0 0) 0 [] :=
      ⟨⟨by simp, .inr ⟨w.heap.size, 0, #[], rfl, Nat.zero_le _, heap_alloc_new w _, Nat.le_refl _, Nat.zero_le _, rfl, by simp⟩⟩, fun k hk => by simp [Value.ownBlock] at hk; subst hk; exact ⟨Nat.le_refl _, by simp⟩⟩
    go_enter Try.func65, Try.ntmps65
    go_wp2_with (at_builtin; refine wpList_app rfl _ _ 26 rfl 9 i0 (.string ⟨#[]⟩) 1 16 Try.underlying26 hi0 iz0 iz1 iz2 rfl (by decide) r0 (hh.alloc _) rfl rfl ?c1 ?c2 ?_)
    case c1 => unfold maxLen; omega
    case c2 => omega
    intro A' c' w1 hown hgr
    go_wp2
    go_ret
    refine ⟨_, rfl, hown.mono ?_, ?_⟩
    · rintro k (hk | hk) hl
      · exact ⟨hk.1, hl⟩
      · exact ⟨by have := hk.1; simp at this; omega, hl⟩
    · exact (((Keep.refl (fun _ => False) w).alloc _).grown hgr (by intro k hk; simp [Value.ownBlock] at hk; subst hk; right; exact Nat.le_refl _)).below (fun _ _ h => h)

theorem isNaN_any (s : ByteArray) (w : World) : Calls Try.prog 87 #[.string s] w fun e w' => e = .returned (.bool false) ∧ w = w' := by
  go_enter Try.func87, Try.ntmps87
  go_wp2
  go_ret
  simp

/-- How two texts stand: -1, 0, 1. -/
def cmpS (a b : ByteArray) : Int := if Op.bytesLess a.toList b.toList = true then -1 else if (!a.toList == b.toList) = true then 1 else 0

theorem cmp_any (a b : ByteArray) (w : World) : Calls Try.prog 69 #[.string a, .string b] w fun e w' => e = .returned (.int .i64 (cmpS a b)) ∧ w = w' := by
  go_enter Try.func69, Try.ntmps69
  go_wp2_with (go_at_call 87; refine (isNaN_any _ _).mono ?_; rintro e w' ⟨rfl, rfl⟩)
  all_goals (go_ret; refine ⟨?_, rfl⟩; simp [cmpS, *])
end Go.Proofs.Ytfahakmnlmlgcaa
