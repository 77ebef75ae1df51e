/-
  same and sameTexts once more: they only draw.
-/
import Derived.Test.YtfahakmnlmlgcaaSame
namespace Go.Proofs.Ytfahakmnlmlgcaa
open Go.RowKit Go.Lib
set_option linter.unusedVariables false
set_option linter.unusedSimpArgs false

set_option maxHeartbeats 800000 in
theorem same_q (w : World) (a b : List UInt8) (u v : Value) (hu : Src w 1 u a.length (bytesV a)) (hv : Src w 1 v b.length (bytesV b)) (ha : a.length ≤ 9223372036854775807) (hb : b.length ≤ 9223372036854775807) :
    Calls Try.prog 25 #[u, v] w fun e w' => e = .returned (.bool (decide (a = b))) ∧ ∃ q, w' = w.drewN q := by
  obtain ⟨A, c, rfl⟩ := hu.form
  obtain ⟨B, d, rfl⟩ := hv.form
  obtain ⟨n, hn⟩ : ∃ n, a.length = n := ⟨_, rfl⟩
  obtain ⟨m, hm⟩ : ∃ m, b.length = m := ⟨_, rfl⟩
  have HU := Lib.hid hu
  have HV := Lib.hid hv
  rw [hn] at ha ⊢
  rw [hm] at hb ⊢
  have HN := Lib.hid hn
  have HM := Lib.hid hm
  clear hn hm hu hv
  by_cases hnm : n = m
  · subst hnm
    go_enter Try.func25, Try.ntmps25
    go_wp2_with fail
    go_loopw [5] (fun i wr => ∃ k q : Nat, k ≤ n ∧ i = .int .i64 k ∧ wr = w.drewN q ∧ a.take k = b.take k) (fun i _ => n - (intOf i).toNat)
    case atStart => exact ⟨0, 0, Nat.zero_le _, rfl, rfl, rfl⟩
    case round =>
      obtain ⟨k, q, hk, rfl, rfl, ht⟩ := hrel
      have HT := Lib.hid ht
      clear ht
      by_cases hlt : k < n
      · have hka : k < a.length := by rw [HN.out]; exact hlt
        have hkb : k < b.length := by rw [HM.out]; exact hlt
        obtain ⟨p1, o1, rfl, h1⟩ := HU.out.cellAt' HN.out k hlt
        obtain ⟨p2, o2, rfl, h2⟩ := HV.out.cellAt' HM.out k hlt
        have g1 := h1 _ (by simp [bytesV, hka]; rfl)
        have g2 := h2 _ (by simp [bytesV, hkb]; rfl)
        clear h1 h2
        have hi0 : (0 : Int) ≤ (k : Int) := by omega
        have hi1 : (k : Int) < (n : Int) := by omega
        by_cases he : a[k] = b[k]
        · have hne : ((a[k].toNat : Int) != (b[k].toNat : Int)) = false := by rw [he]; simp
          have HE := Lib.hid he
          clear he
          go_wp2_with fail
          go_quiet (fail)
          go_wp2_with fail
          first
            | (go_roundw; (case rel => exact ⟨k + 1, _, by omega, by go_num, rfl, take_eq_succ HT.out hka hkb HE.out⟩); (case measure => simp [intOf]; omega))
            | exact ⟨⟨k + 1, _, by omega, by go_num, rfl, take_eq_succ HT.out hka hkb HE.out⟩, by simp [intOf]; omega⟩
        · have hne : ((a[k].toNat : Int) != (b[k].toNat : Int)) = true := by (simp only [bne_iff_ne, ne_eq]; intro e; exact he (UInt8.toNat_inj.1 (by omega)))
          have HE := Lib.hid he
          clear he
          go_wp2_with fail
          go_quiet (fail)
          go_wp2_with fail
          go_ret
          exact ⟨ret_bool (by rw [decide_eq_false (fun e => HE.out (by subst e; rfl))]), _, by first | rfl | (rw [World.drewN_drewN])⟩
      · obtain rfl : k = n := by omega
        go_wp2
        go_ret
        refine ⟨ret_bool ?_, _, rfl⟩
        have := HT.out
        rw [List.take_of_length_le (by rw [HN.out]; exact Nat.le_refl _), List.take_of_length_le (by rw [HM.out]; exact Nat.le_refl _)] at this
        rw [decide_eq_true this]
  · have hne : ((n : Int) != (m : Int)) = true := by simp; omega
    have HD := Lib.hid hnm
    clear hnm
    go_enter Try.func25, Try.ntmps25
    go_wp2
    go_ret
    exact ⟨ret_bool (by rw [decide_eq_false (fun e => HD.out (by rw [← HN.out, ← HM.out, e]))]), 0, rfl⟩
set_option maxHeartbeats 800000 in
theorem sameTexts_q (w : World) (a b : List ByteArray) (u v : Value) (hu : Src w 1 u a.length (textsV a)) (hv : Src w 1 v b.length (textsV b)) (ha : a.length ≤ 9223372036854775807) (hb : b.length ≤ 9223372036854775807) :
    Calls Try.prog 33 #[u, v] w fun e w' => e = .returned (.bool (decide (a = b))) ∧ ∃ q, w' = w.drewN q := by
  obtain ⟨A, c, rfl⟩ := hu.form
  obtain ⟨B, d, rfl⟩ := hv.form
  obtain ⟨n, hn⟩ : ∃ n, a.length = n := ⟨_, rfl⟩
  obtain ⟨m, hm⟩ : ∃ m, b.length = m := ⟨_, rfl⟩
  have HU := Lib.hid hu
  have HV := Lib.hid hv
  rw [hn] at ha ⊢
  rw [hm] at hb ⊢
  have HN := Lib.hid hn
  have HM := Lib.hid hm
  clear hn hm hu hv
  by_cases hnm : n = m
  · subst hnm
    go_enter Try.func33, Try.ntmps33
    go_wp2_with fail
    go_loopw [5] (fun i wr => ∃ k q : Nat, k ≤ n ∧ i = .int .i64 k ∧ wr = w.drewN q ∧ a.take k = b.take k) (fun i _ => n - (intOf i).toNat)
    case atStart => exact ⟨0, 0, Nat.zero_le _, rfl, rfl, rfl⟩
    case round =>
      obtain ⟨k, q, hk, rfl, rfl, ht⟩ := hrel
      have HT := Lib.hid ht
      clear ht
      by_cases hlt : k < n
      · have hka : k < a.length := by rw [HN.out]; exact hlt
        have hkb : k < b.length := by rw [HM.out]; exact hlt
        obtain ⟨p1, o1, rfl, h1⟩ := HU.out.cellAt' HN.out k hlt
        obtain ⟨p2, o2, rfl, h2⟩ := HV.out.cellAt' HM.out k hlt
        have g1 := h1 _ (by simp [textsV, hka]; rfl)
        have g2 := h2 _ (by simp [textsV, hkb]; rfl)
        clear h1 h2
        have hi0 : (0 : Int) ≤ (k : Int) := by omega
        have hi1 : (k : Int) < (n : Int) := by omega
        by_cases he : a[k] = b[k]
        · have hne : (!(a[k].toList == b[k].toList)) = false := by rw [he]; simp
          have HE := Lib.hid he
          clear he
          go_wp2_with fail
          go_quiet (fail)
          go_wp2_with fail
          first
            | (go_roundw; (case rel => exact ⟨k + 1, _, by omega, by go_num, rfl, take_eq_succ HT.out hka hkb HE.out⟩); (case measure => simp [intOf]; omega))
            | exact ⟨⟨k + 1, _, by omega, by go_num, rfl, take_eq_succ HT.out hka hkb HE.out⟩, by simp [intOf]; omega⟩
        · have hne : (!(a[k].toList == b[k].toList)) = true := by (rw [tl_beq, bbeq_ne he]; rfl)
          have HE := Lib.hid he
          clear he
          go_wp2_with fail
          go_quiet (fail)
          go_wp2_with fail
          go_ret
          exact ⟨ret_bool (by rw [decide_eq_false (fun e => HE.out (by subst e; rfl))]), _, by first | rfl | (rw [World.drewN_drewN])⟩
      · obtain rfl : k = n := by omega
        go_wp2
        go_ret
        refine ⟨ret_bool ?_, _, rfl⟩
        have := HT.out
        rw [List.take_of_length_le (by rw [HN.out]; exact Nat.le_refl _), List.take_of_length_le (by rw [HM.out]; exact Nat.le_refl _)] at this
        rw [decide_eq_true this]
  · have hne : ((n : Int) != (m : Int)) = true := by simp; omega
    have HD := Lib.hid hnm
    clear hnm
    go_enter Try.func33, Try.ntmps33
    go_wp2
    go_ret
    exact ⟨ret_bool (by rw [decide_eq_false (fun e => HD.out (by rw [← HN.out, ← HM.out, e]))]), 0, rfl⟩
end Go.Proofs.Ytfahakmnlmlgcaa
