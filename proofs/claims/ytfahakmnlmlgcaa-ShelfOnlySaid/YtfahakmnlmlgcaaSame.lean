/-
  Contracts of the laws' own helpers: same, sameTexts, sameResult.
-/
import Derived.Test.YtfahakmnlmlgcaaProg
import Derived.Test.YtfahakmnlmlgcaaBase
import Derived.Test.YtfahakmnlmlgcaaShelfI
import Derived.Deep.QuietTactic
import Derived.BigQuiet
import Derived.WalkLawsBesides
import Derived.Lib.Hide
namespace Go.Proofs.Ytfahakmnlmlgcaa
open Go.RowKit Go.Lib
set_option linter.unusedVariables false
set_option linter.unusedSimpArgs false

theorem below_drewN {w : World} (n : Nat) : Below w.heap.size w (w.drewN n) := ⟨rfl, rfl, rfl, Nat.le_refl _, fun _ _ => rfl⟩
theorem Src.cellAt {w : World} {A : Option Addr} {n c : Nat} {xs : List Value} (h : Src w 1 (.slice A n c) n xs) (k : Nat) (hk : k < n) : ∃ b o, A = some ⟨b, o, none⟩ ∧ ∀ u, xs[k]? = some u → w.cell? ⟨b, o + k, none⟩ = some u := by
  obtain ⟨_, _, A', c', hv, hA⟩ := h
  injection hv with h1 _ h3
  subst h1; subst h3
  rcases hA with h0 | ⟨b, o, e, hc⟩
  · omega
  · exact ⟨b, o, e, hc k⟩
theorem Src.cellAt' {w : World} {A : Option Addr} {n l c : Nat} {xs : List Value} (h : Src w 1 (.slice A l c) l xs) (e : l = n) (k : Nat) (hk : k < n) : ∃ b o, A = some ⟨b, o, none⟩ ∧ ∀ u, xs[k]? = some u → w.cell? ⟨b, o + k, none⟩ = some u :=
  h.cellAt k (by omega)
theorem ret_bool {a b : Bool} (h : a = b) : Ending.returned (.bool a) = .returned (.bool b) := by rw [h]
theorem take_eq_succ {α : Type} [DecidableEq α] {a b : List α} {k : Nat} (h : a.take k = b.take k) (ha : k < a.length) (hb : k < b.length) (he : a[k] = b[k]) : a.take (k + 1) = b.take (k + 1) := by
  rw [List.take_succ_eq_append_getElem ha, List.take_succ_eq_append_getElem hb, h, he]

set_option maxHeartbeats 800000 in
theorem same_any (w : World) (a b : List UInt8) (u v : Value) (hu : Src w 1 u a.length (bytesV a)) (hv : Src w 1 v b.length (bytesV b)) (ha : a.length ≤ 9223372036854775807) (hb : b.length ≤ 9223372036854775807) :
    Calls Try.prog 25 #[u, v] w fun e w' => e = .returned (.bool (decide (a = b))) ∧ Below w.heap.size w w' := by
  obtain ⟨A, c, rfl⟩ := hu.form
  obtain ⟨B, d, rfl⟩ := hv.form
  obtain ⟨n, hn⟩ : ∃ n, a.length = n := ⟨_, rfl⟩
  obtain ⟨m, hm⟩ : ∃ m, b.length = m := ⟨_, rfl⟩
  have HU := Lib.hid hu
  have HV := Lib.hid hv
  rw [hn] at ha ⊢
  rw [hm] at hb ⊢
  have HN := Lib.hid hn
  have HM := Lib.hid hm
  clear hn hm hu hv
  by_cases hnm : n = m
  · subst hnm
    go_enter Try.func25, Try.ntmps25
    go_wp2_with fail
    go_loopw [5] (fun i wr => ∃ k q : Nat, k ≤ n ∧ i = .int .i64 k ∧ wr = w.drewN q ∧ a.take k = b.take k) (fun i _ => n - (intOf i).toNat)
    case atStart => exact ⟨0, 0, Nat.zero_le _, rfl, rfl, rfl⟩
    case round =>
      obtain ⟨k, q, hk, rfl, rfl, ht⟩ := hrel
      have HT := Lib.hid ht
      clear ht
      by_cases hlt : k < n
      · have hka : k < a.length := by rw [HN.out]; exact hlt
        have hkb : k < b.length := by rw [HM.out]; exact hlt
        obtain ⟨p1, o1, rfl, h1⟩ := HU.out.cellAt' HN.out k hlt
        obtain ⟨p2, o2, rfl, h2⟩ := HV.out.cellAt' HM.out k hlt
        have g1 := h1 _ (by simp [bytesV, hka]; rfl)
        have g2 := h2 _ (by simp [bytesV, hkb]; rfl)
        clear h1 h2
        have hi0 : (0 : Int) ≤ (k : Int) := by omega
        have hi1 : (k : Int) < (n : Int) := by omega
        by_cases he : a[k] = b[k]
        · have hne : ((a[k].toNat : Int) != (b[k].toNat : Int)) = false := by rw [he]; simp
          have HE := Lib.hid he
          clear he
          go_wp2_with fail
          go_quiet (fail)
          go_wp2_with fail
          first
            | (go_roundw; (case rel => exact ⟨k + 1, _, by omega, by go_num, rfl, take_eq_succ HT.out hka hkb HE.out⟩); (case measure => simp [intOf]; omega))
            | exact ⟨⟨k + 1, _, by omega, by go_num, rfl, take_eq_succ HT.out hka hkb HE.out⟩, by simp [intOf]; omega⟩
        · have hne : ((a[k].toNat : Int) != (b[k].toNat : Int)) = true := by (simp only [bne_iff_ne, ne_eq]; intro e; exact he (UInt8.toNat_inj.1 (by omega)))
          have HE := Lib.hid he
          clear he
          go_wp2_with fail
          go_quiet (fail)
          go_wp2_with fail
          go_ret
          exact ⟨ret_bool (by rw [decide_eq_false (fun e => HE.out (by subst e; rfl))]), (by first | exact below_drewN _ | exact (below_drewN q).trans (below_drewN (w := w.drewN q) _))⟩
      · obtain rfl : k = n := by omega
        go_wp2
        go_ret
        refine ⟨ret_bool ?_, below_drewN _⟩
        have := HT.out
        rw [List.take_of_length_le (by rw [HN.out]; exact Nat.le_refl _), List.take_of_length_le (by rw [HM.out]; exact Nat.le_refl _)] at this
        rw [decide_eq_true this]
  · have hne : ((n : Int) != (m : Int)) = true := by simp; omega
    have HD := Lib.hid hnm
    clear hnm
    go_enter Try.func25, Try.ntmps25
    go_wp2
    go_ret
    exact ⟨ret_bool (by rw [decide_eq_false (fun e => HD.out (by rw [← HN.out, ← HM.out, e]))]), Below.refl _ _⟩
set_option maxHeartbeats 800000 in
theorem sameTexts_any (w : World) (a b : List ByteArray) (u v : Value) (hu : Src w 1 u a.length (textsV a)) (hv : Src w 1 v b.length (textsV b)) (ha : a.length ≤ 9223372036854775807) (hb : b.length ≤ 9223372036854775807) :
    Calls Try.prog 33 #[u, v] w fun e w' => e = .returned (.bool (decide (a = b))) ∧ Below w.heap.size w w' := by
  obtain ⟨A, c, rfl⟩ := hu.form
  obtain ⟨B, d, rfl⟩ := hv.form
  obtain ⟨n, hn⟩ : ∃ n, a.length = n := ⟨_, rfl⟩
  obtain ⟨m, hm⟩ : ∃ m, b.length = m := ⟨_, rfl⟩
  have HU := Lib.hid hu
  have HV := Lib.hid hv
  rw [hn] at ha ⊢
  rw [hm] at hb ⊢
  have HN := Lib.hid hn
  have HM := Lib.hid hm
  clear hn hm hu hv
  by_cases hnm : n = m
  · subst hnm
    go_enter Try.func33, Try.ntmps33
    go_wp2_with fail
    go_loopw [5] (fun i wr => ∃ k q : Nat, k ≤ n ∧ i = .int .i64 k ∧ wr = w.drewN q ∧ a.take k = b.take k) (fun i _ => n - (intOf i).toNat)
    case atStart => exact ⟨0, 0, Nat.zero_le _, rfl, rfl, rfl⟩
    case round =>
      obtain ⟨k, q, hk, rfl, rfl, ht⟩ := hrel
      have HT := Lib.hid ht
      clear ht
      by_cases hlt : k < n
      · have hka : k < a.length := by rw [HN.out]; exact hlt
        have hkb : k < b.length := by rw [HM.out]; exact hlt
        obtain ⟨p1, o1, rfl, h1⟩ := HU.out.cellAt' HN.out k hlt
        obtain ⟨p2, o2, rfl, h2⟩ := HV.out.cellAt' HM.out k hlt
        have g1 := h1 _ (by simp [textsV, hka]; rfl)
        have g2 := h2 _ (by simp [textsV, hkb]; rfl)
        clear h1 h2
        have hi0 : (0 : Int) ≤ (k : Int) := by omega
        have hi1 : (k : Int) < (n : Int) := by omega
        by_cases he : a[k] = b[k]
        · have hne : (!(a[k].toList == b[k].toList)) = false := by rw [he]; simp
          have HE := Lib.hid he
          clear he
          go_wp2_with fail
          go_quiet (fail)
          go_wp2_with fail
          first
            | (go_roundw; (case rel => exact ⟨k + 1, _, by omega, by go_num, rfl, take_eq_succ HT.out hka hkb HE.out⟩); (case measure => simp [intOf]; omega))
            | exact ⟨⟨k + 1, _, by omega, by go_num, rfl, take_eq_succ HT.out hka hkb HE.out⟩, by simp [intOf]; omega⟩
        · have hne : (!(a[k].toList == b[k].toList)) = true := by (rw [tl_beq, bbeq_ne he]; rfl)
          have HE := Lib.hid he
          clear he
          go_wp2_with fail
          go_quiet (fail)
          go_wp2_with fail
          go_ret
          exact ⟨ret_bool (by rw [decide_eq_false (fun e => HE.out (by subst e; rfl))]), (by first | exact below_drewN _ | exact (below_drewN q).trans (below_drewN (w := w.drewN q) _))⟩
      · obtain rfl : k = n := by omega
        go_wp2
        go_ret
        refine ⟨ret_bool ?_, below_drewN _⟩
        have := HT.out
        rw [List.take_of_length_le (by rw [HN.out]; exact Nat.le_refl _), List.take_of_length_le (by rw [HM.out]; exact Nat.le_refl _)] at this
        rw [decide_eq_true this]
  · have hne : ((n : Int) != (m : Int)) = true := by simp; omega
    have HD := Lib.hid hnm
    clear hnm
    go_enter Try.func33, Try.ntmps33
    go_wp2
    go_ret
    exact ⟨ret_bool (by rw [decide_eq_false (fun e => HD.out (by rw [← HN.out, ← HM.out, e]))]), Below.refl _ _⟩

theorem sameResult_any (w : World) (c1 n1 c2 n2 : Int) (a b : List ByteArray) (u v : Value) (hu : Src w 1 u a.length (textsV a)) (hv : Src w 1 v b.length (textsV b)) (ha : a.length ≤ 9223372036854775807) (hb : b.length ≤ 9223372036854775807) :
    Calls Try.prog 24 #[.agg #[.int .i64 c1, .int .i64 n1, u], .agg #[.int .i64 c2, .int .i64 n2, v]] w fun e w' => e = .returned (.bool (decide (c1 = c2 ∧ n1 = n2 ∧ a = b))) ∧ Below w.heap.size w w' := by
  obtain ⟨A, c, rfl⟩ := hu.form
  obtain ⟨B, d, rfl⟩ := hv.form
  have hs := fun W h1 h2 => sameTexts_any W a b (.slice A a.length c) (.slice B b.length d) h1 h2 ha hb
  have HU := Lib.hid hu
  have HV := Lib.hid hv
  obtain ⟨n, hn⟩ : ∃ n, a.length = n := ⟨_, rfl⟩
  obtain ⟨m, hm⟩ : ∃ m, b.length = m := ⟨_, rfl⟩
  have HS := Lib.hid hs
  clear hs hu hv
  rw [hn] at HU HS ⊢
  rw [hm] at HV HS ⊢
  clear hn hm ha hb
  have hb2 : Below w.heap.size w ((w.alloc (.cells #[.int .i64 c1, .int .i64 n1, .slice A n c] 28)).alloc (.cells #[.int .i64 c2, .int .i64 n2, .slice B m d] 28)) := ((Below.refl _ _).alloc (Nat.le_refl _) _).alloc (by simp) _
  by_cases hc : c1 = c2
  · have hc' : (c1 == c2) = true := by simpa using hc
    by_cases hn : n1 = n2
    · have hn' : (n1 == n2) = true := by simpa using hn
      have HC := Lib.hid hc
      have HN := Lib.hid hn
      clear hc hn
      go_enter Try.func24, Try.ntmps24
      go_wp2_with (go_at_call 33; refine (HS.out _ ((HU.out.alloc _).alloc _) ((HV.out.alloc _).alloc _)).mono ?_; rintro e w1 ⟨rfl, hb1⟩)
      go_ret
      exact ⟨ret_bool (by simp [HC.out, HN.out]), hb2.trans (hb1.mono (by simp; omega))⟩
    · have hn' : (n1 == n2) = false := by simpa using hn
      have HC := Lib.hid hc
      have HN := Lib.hid hn
      clear hc hn
      go_enter Try.func24, Try.ntmps24
      go_wp2_with fail
      go_ret
      exact ⟨ret_bool (by simp [HC.out, HN.out]), hb2⟩
  · have hc' : (c1 == c2) = false := by simpa using hc
    have HC := Lib.hid hc
    clear hc
    go_enter Try.func24, Try.ntmps24
    go_wp2_with fail
    go_ret
    exact ⟨ret_bool (by simp [HC.out]), hb2⟩
end Go.Proofs.Ytfahakmnlmlgcaa
