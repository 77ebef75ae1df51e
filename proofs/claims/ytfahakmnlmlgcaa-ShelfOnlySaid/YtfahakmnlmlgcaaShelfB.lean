/-
  Contracts of shelf's CheckResult and Query.
-/
import Derived.Test.YtfahakmnlmlgcaaProg
import Derived.Test.YtfahakmnlmlgcaaBase
import Derived.WalkLawsBesides
import Derived.Lib.Hide
namespace Go.Proofs.Ytfahakmnlmlgcaa
open Go.RowKit Go.Lib
set_option linter.unusedVariables false
set_option linter.unusedSimpArgs false

/-- What CheckResult answers. -/
def checkResS (code num : Int) (items : List ByteArray) : Int :=
  if code < 0 ∨ 4 < code then 50
  else if code ≠ 0 ∧ (num ≠ 0 ∨ 0 < items.length) then 55
  else if num < 0 ∨ 1099511627776 < num then 53
  else if 8 < items.length then 54
  else if items.any (fun s => decide (64 < s.size)) then 52 else 0

theorem textsV_one (l : List ByteArray) : ∀ u ∈ textsV l, u.oneCell' = true := by
  intro u hu
  simp only [textsV, List.mem_map] at hu
  obtain ⟨b, _, rfl⟩ := hu
  rfl

theorem any_take_succ (l : List ByteArray) (p : ByteArray → Bool) (k : Nat) (hk : k < l.length) : (l.take (k + 1)).any p = ((l.take k).any p || p l[k]) := by
  rw [List.take_succ_eq_append_getElem hk, List.any_append]; simp

theorem checkRes_any (code num : Int) (items : List ByteArray) (v : Value) (w : World) (r : Int) (hr : checkResS code num items = r) (h : Src w 1 v items.length (textsV items)) (hl : items.length ≤ 9223372036854775807) :
    Calls Try.prog 16 #[.agg #[.int .i64 code, .int .i64 num, v]] w fun e w' => e = .returned (.int .i64 r) ∧ Below w.heap.size w w' := by
  obtain ⟨_, _, A, c, rfl, hA⟩ := h
  obtain ⟨n, hn⟩ : ∃ n, items.length = n := ⟨_, rfl⟩
  rw [hn] at hA hl
  have hnH := Lib.hid hn
  have hb : Below w.heap.size w (w.alloc (.cells #[.int .i64 code, .int .i64 num, .slice A n c] 28)) := (Below.refl _ _).alloc (Nat.le_refl _) _
  rw [hn]
  have hcell : ∀ k, (hk : k < n) → ∃ b o, A = some ⟨b, o, none⟩ ∧ b < w.heap.size ∧ w.cell? ⟨b, o + k, none⟩ = some (.string (items[k]'(by omega))) := by
    intro k hk
    rcases hA with hA | ⟨b, o, hb, hc⟩
    · omega
    · have := hc k (.string (items[k]'(by omega))) (by simp [textsV])
      exact ⟨b, o, hb, World.block_lt_of_cell? w _ this, this⟩
  have hr := Lib.hid hr
  clear hA
  by_cases hz : (0 ≤ code ∧ code ≤ 4) ∧ (code = 0 ∨ (num = 0 ∧ n = 0)) ∧ (0 ≤ num ∧ num ≤ 1099511627776) ∧ n ≤ 8
  · have hS : checkResS code num items = if items.any (fun s => decide (64 < s.size)) then 52 else 0 := by
      simp only [checkResS]
      rw [if_neg (by omega), if_neg (by omega), if_neg (by omega), if_neg (by omega)]
    have hS := Lib.hid hS
    obtain ⟨⟨hz1, hz2⟩, hz3, ⟨hz4, hz5⟩, hz6⟩ := hz
    have main : Calls Try.prog 16 #[.agg #[.int .i64 code, .int .i64 num, .slice A n c]] w fun e w' => e = .returned (.int .i64 r) ∧ Below w.heap.size w w' := by
      rcases hz3 with rfl | ⟨rfl, rfl⟩
      · go_enter Try.func16, Try.ntmps16
        go_wp2_with fail
        go_loop [4, 46] (fun _ i => ∃ k : Nat, k ≤ n ∧ i = .int .i64 k ∧ (items.take k).any (fun s => decide (64 < s.size)) = false) (fun _ i => n - (intOf i).toNat)
        case atStart => exact ⟨0, Nat.zero_le _, rfl, by simp⟩
        case round =>
          obtain ⟨k, hk, rfl, hany⟩ := hrel
          have hany := Lib.hid hany
          by_cases hlt : k < n
          · obtain ⟨b, o, rfl, hbl, hcl⟩ := hcell k hlt
            have hts := any_take_succ items (fun s => decide (64 < s.size)) k (by rw [hnH.out]; exact hlt)
            have hts := Lib.hid hts
            by_cases hs : 64 < (items[k]'(by rw [hnH.out]; exact hlt)).size
            · go_wp2
              go_ret
              refine ⟨?_, hb⟩
              have e : checkResS 0 num items = 52 := by
                rw [hS.out, if_pos]
                rw [List.any_eq_true]
                exact ⟨_, List.getElem_mem (by rw [hnH.out]; exact hlt), by simpa using hs⟩
              rw [← hr.out, e]; rfl
            · go_wp2
              go_round
              case rel => exact ⟨k + 1, by omega, by go_num, by rw [hts.out, hany.out]; simpa using hs⟩
              case measure => simp [intOf]; omega
          · have hk' : k = n := by omega
            go_wp2
            go_ret
            refine ⟨?_, hb⟩
            have e : checkResS 0 num items = 0 := by
              have := hany.out
              rw [hk', ← hnH.out, List.take_length] at this
              rw [hS.out, if_neg (by simp [this])]
            rw [← hr.out, e]; rfl
      · obtain rfl : items = [] := List.eq_nil_of_length_eq_zero hnH.out
        have e : checkResS code 0 [] = 0 := by rw [hS.out, if_neg (by simp)]
        have e := Lib.hid e
        by_cases hc0 : code = 0
        · subst hc0
          go_enter Try.func16, Try.ntmps16
          go_wp2_with fail
          refine wp_loop_rounds 1 ?_
          rw [rounds_succ]
          go_wp2
          go_ret
          exact ⟨by rw [← hr.out, e.out]; rfl, hb⟩
        · go_enter Try.func16, Try.ntmps16
          go_wp2_with fail
          refine wp_loop_rounds 1 ?_
          rw [rounds_succ]
          go_wp2
          go_ret
          exact ⟨by rw [← hr.out, e.out]; rfl, hb⟩
    exact main
  · have hbad : checkResS code num items = if code < 0 ∨ 4 < code then 50 else if code ≠ 0 ∧ (num ≠ 0 ∨ 0 < n) then 55 else if num < 0 ∨ 1099511627776 < num then 53 else 54 := by
      rw [← hnH.out] at hz ⊢
      simp only [checkResS]
      split
      · rfl
      · split
        · rfl
        · split
          · rfl
          · rw [if_pos (by omega)]
    have hbad := Lib.hid hbad
    by_cases hc0 : code = 0
    · subst hc0
      have hz' : num < 0 ∨ 1099511627776 < num ∨ 8 < n := by omega
      have hzH := Lib.hid hz'
      clear hz hz'
      go_enter Try.func16, Try.ntmps16
      go_wp2_with fail
      all_goals first
        | (go_ret; refine ⟨?_, (Below.refl _ _).alloc (Nat.le_refl _) _⟩; rw [← hr.out, hbad.out]; (repeat' split) <;> first | rfl | (exfalso; omega))
        | (exfalso; have h9 := hzH.out; omega)
    · have hne : (code != 0) = true := by simp [hc0]
      have hzH := Lib.hid hz
      clear hz
      go_enter Try.func16, Try.ntmps16
      go_wp2_with fail
      all_goals first
        | (go_ret; refine ⟨?_, (Below.refl _ _).alloc (Nat.le_refl _) _⟩; rw [← hr.out, hbad.out]; (repeat' split) <;> first | rfl | (exfalso; omega))
        | (exfalso; have h9 := hzH.out; omega)

theorem query_any (k : Int) (w : World) :
    Calls Try.prog 17 #[.int .i64 k] w fun e w' => e = .returned (.bool (decide (6 ≤ k) && decide (k ≤ 8))) ∧ w = w' := by
  go_enter Try.func17, Try.ntmps17
  go_wp2
  all_goals (go_ret; simp [*]; try omega)
end Go.Proofs.Ytfahakmnlmlgcaa
