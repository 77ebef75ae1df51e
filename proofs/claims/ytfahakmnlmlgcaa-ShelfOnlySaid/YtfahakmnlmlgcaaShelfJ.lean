/-
  Contracts: bytes.Equal; a slot's groups, in the order of the map's iteration.
-/
import Derived.Test.YtfahakmnlmlgcaaShelfE
import Derived.Test.YtfahakmnlmlgcaaShelfI
import Derived.Laws.IdiomStrings
namespace Go.Proofs.Ytfahakmnlmlgcaa
open Go.RowKit Go.Lib
set_option linter.unusedVariables false
set_option linter.unusedSimpArgs false

/-- Groups as cells. -/
def groupsV (l : List (ByteArray × Nat)) : List Value := l.flatMap fun p => [.string p.1, .int .i64 p.2]
theorem groupsV_append (a b : List (ByteArray × Nat)) : groupsV (a ++ b) = groupsV a ++ groupsV b := by simp [groupsV]
theorem groupsV_length (l : List (ByteArray × Nat)) : (groupsV l).length = l.length * 2 := by
  induction l with
  | nil => rfl
  | cons p l ih => simp [groupsV] at ih ⊢; omega
theorem groupsV_one (l : List (ByteArray × Nat)) : ∀ u ∈ groupsV l, u.oneCell' = true := by
  intro u hu
  simp only [groupsV, List.mem_flatMap, List.mem_cons, List.not_mem_nil, or_false] at hu
  obtain ⟨p, _, rfl | rfl⟩ := hu <;> rfl

theorem Try.infoGroup : (Try.prog.info? 99).map (fun i => (i.zero, i.size, i.bytes)) = some (some (.agg #[.string ⟨#[]⟩, .int .i64 0]), 2, 24) := by kernel_rfl

theorem conv_src {w : World} {u : Value} (l : List UInt8) (h : Src w 1 u l.length (bytesV l)) : (convert 49 9 u).run Try.prog w = .ok (.string ⟨l.toArray⟩) w := by
  obtain ⟨h1, h2, A, c, rfl, hA⟩ := h
  cases A with
  | none =>
    have h0 : l.length = 0 := by
      rcases hA with h | ⟨_, _, h, _⟩
      · exact h
      · cases h
    obtain rfl : l = [] := List.eq_nil_of_length_eq_zero h0
    show (convert 49 9 (.slice none 0 c)).run Try.prog w = _
    rw [run_convert_bytes_string w _ _ _ none 0 c Try.underlying49 Try.underlying5 Try.underlying9]
    rfl
  | some ad =>
    refine run_convert_bytes_back w _ _ _ ad c l Try.underlying49 Try.underlying5 Try.underlying9 (fun j hj => ?_)
    rcases hA with h | ⟨b, o, e, hc⟩
    · omega
    · cases e
      rw [Src.add_lit]
      exact hc j _ (by simp [bytesV, hj])

theorem equal_any (w : World) (a b : List UInt8) (u v : Value) (hu : Src w 1 u a.length (bytesV a)) (hv : Src w 1 v b.length (bytesV b)) :
    Calls Try.prog 51 #[u, v] w fun e w' => e = .returned (.bool (a == b)) ∧ w = w' := by
  have c1 := conv_src a hu
  have c2 := conv_src b hv
  obtain ⟨A, c, rfl⟩ := hu.form
  obtain ⟨B, d, rfl⟩ := hv.form
  obtain ⟨n, hn⟩ : ∃ n, a.length = n := ⟨_, rfl⟩
  obtain ⟨m, hm⟩ : ∃ m, b.length = m := ⟨_, rfl⟩
  rw [hn] at c1 ⊢
  rw [hm] at c2 ⊢
  clear hu hv hn hm
  go_enter Try.func51, Try.ntmps51
  go_wp2
  go_ret
  exact ⟨by simp, rfl⟩

/-- The pairs at some places. -/
def pick (m : List (ByteArray × Nat)) (done : List Nat) : List (ByteArray × Nat) := done.map fun i => m.getD i (ByteArray.empty, 0)
theorem pick_add (m : List (ByteArray × Nat)) (done : List Nat) (i : Nat) (hi : i < m.length) : pick m (done ++ [i]) = pick m done ++ [m[i]] := by simp [pick, hi]
theorem pick_length (m : List (ByteArray × Nat)) (done : List Nat) : (pick m done).length = done.length := by simp [pick]
theorem pick_perm (m : List (ByteArray × Nat)) (done : List Nat) (hn : done.Nodup) (h : ∀ i ∈ done, i < m.length) (ha : ∀ i, i < m.length → i ∈ done) : (pick m done).Perm m := by
  have hp : done.Perm (List.range m.length) := (List.perm_ext_iff_of_nodup hn List.nodup_range).2 (fun i => ⟨fun hi => by simpa using h i hi, fun hi => ha i (by simpa using hi)⟩)
  have h2 := hp.map (fun i => m.getD i (ByteArray.empty, 0))
  have e : (List.range m.length).map (fun i => m.getD i (ByteArray.empty, 0)) = m := by
    apply List.ext_getElem (by simp)
    intro j h1 h2
    have : j < m.length := h2
    simp [this]
  rw [e] at h2
  exact h2
end Go.Proofs.Ytfahakmnlmlgcaa
