/-
  Arguments opened: an op, a result, a list of ops, told in plain words.
-/
import Derived.Test.YtfahakmnlmlgcaaRows
import Derived.Test.YtfahakmnlmlgcaaShelfA
import Derived.WalkKit
import Derived.ProofKit
import Derived.OpenShut
import Derived.ChangeOld
import Derived.Below
import Derived.Lib.SmallJoins
import Derived.SliceStrings
import Derived.Deep.Slices
import Derived.Deep.Fields
namespace Go.Proofs.Ytfahakmnlmlgcaa
open Go.ChangeShapes Go.WideShapes Go.ChangeAt Go.RowKit Go.Joins Go.Deep
set_option linter.unusedVariables false
set_option linter.unusedSimpArgs false

theorem Try.ownKnob : ownKnob Try.prog.godebug = none := by kernel_rfl
theorem Try.laidOut : laidOutB Try.prog = true := by kernel_rfl

section
variable {H : Type} {enc : TypeId × Value → H} {P : Program} {w : World} {base : Nat} {spare : Nat → Bool} {held : Bool}
/-- A struct of five fields of one cell each, by value. -/
theorem open_five {r : Reach} {b0 : Nat} {t : TypeId} {f0 f1 f2 f3 f4 : Field} {v : Value} {d : DataW H} {p : List MemPlace} (hs : P.underlying t = some (.struct #[f0, f1, f2, f3, f4])) (hone : oneCellFields P #[f0, f1, f2, f3, f4] = true) (hC : P.cellsOf t = 5)
    (hv : Value.okWide P w r b0 t v) (h : DataW.Trod enc P w base spare held t v d p) :
    ∃ (v0 v1 v2 v3 v4 : Value) (y0 y1 y2 y3 y4 : DataW H × List MemPlace) (n : Nat), v = .agg #[v0, v1, v2, v3, v4] ∧
      DataW.trod enc P w base spare held n f0.type [v0] = some y0 ∧ DataW.trod enc P w base spare held n f1.type [v1] = some y1 ∧ DataW.trod enc P w base spare held n f2.type [v2] = some y2 ∧ DataW.trod enc P w base spare held n f3.type [v3] = some y3 ∧ DataW.trod enc P w base spare held n f4.type [v4] = some y4 := by
  obtain ⟨cs, rfl, hsz⟩ := okWide_struct hs hv
  obtain ⟨l⟩ := cs
  match l, hsz.trans hC with
  | [c0, c1, c2, c3, c4], _ =>
    obtain ⟨fuel, hf⟩ := h
    obtain ⟨xs, n, _, hx, _, hlen, hg⟩ := DataW.trod_struct hs hf
    obtain ⟨o0, k0⟩ := hone_of hone 0 f0 rfl
    obtain ⟨o1, k1⟩ := hone_of hone 1 f1 rfl
    obtain ⟨o2, k2⟩ := hone_of hone 2 f2 rfl
    obtain ⟨o3, k3⟩ := hone_of hone 3 f3 rfl
    obtain ⟨o4, k4⟩ := hone_of hone 4 f4 rfl
    match xs, hlen with
    | [y0, y1, y2, y3, y4], _ =>
      exact ⟨c0, c1, c2, c3, c4, y0, y1, y2, y3, y4, n, rfl, by simpa [Value.cells, o0, k0] using hg 0 f0 rfl, by simpa [Value.cells, o1, k1] using hg 1 f1 rfl, by simpa [Value.cells, o2, k2] using hg 2 f2 rfl, by simpa [Value.cells, o3, k3] using hg 3 f3 rfl, by simpa [Value.cells, o4, k4] using hg 4 f4 rfl⟩
end

section
variable {H : Type} {enc : TypeId × Value → H} {w : World} {base : Nat} {spare : Nat → Bool} {held : Bool}
set_option maxRecDepth 100000 in
/-- An op that came in. -/
theorem open_op {r : Reach} {b0 : Nat} {v : Value} {d : DataW H} {p : List MemPlace} (hv : Value.okWide Try.prog w r b0 33 v) (h : DataW.Trod enc Try.prog w base spare held 33 v d p) : ∃ o : OpS, v = o.val := by
  obtain ⟨v0, v1, v2, v3, v4, y0, y1, y2, y3, y4, n, rfl, h0, h1, h2, h3, h4⟩ := open_five Try.underlying33 (by kernel_rfl) (by kernel_rfl) hv h
  obtain ⟨n0, e0, _, _⟩ := DataW.trod_int Try.underlying3 h0
  obtain ⟨n1, e1, _, _⟩ := DataW.trod_string Try.underlying9 h1
  obtain ⟨n2, e2, _, _⟩ := DataW.trod_string Try.underlying9 h2
  obtain ⟨n3, e3, _, _⟩ := DataW.trod_int Try.underlying3 h3
  obtain ⟨n4, e4, _, _⟩ := DataW.trod_int Try.underlying3 h4
  simp only [List.cons.injEq, and_true] at e0 e1 e2 e3 e4
  subst e0; subst e1; subst e2; subst e3; subst e4
  exact ⟨⟨n0, n1, n2, n3, n4⟩, rfl⟩

/-- A list of texts that came in. -/
theorem open_texts {fuel : Nat} {v : Value} {x : DataW H × List MemPlace} (h : DataW.trod enc Try.prog w base spare held fuel 26 [v] = some x) : ∃ items : List ByteArray, Src w 1 v items.length (textsV items) ∧ items.length ≤ maxLen ∧ ∀ s ∈ items, s.size ≤ maxLen := by
  rcases open_strings Try.underlying26 Try.underlying9 (by kernel_rfl) h with ⟨hcs, _⟩ | ⟨a, len, cap, ss, hcs, _, hl, hm, hz, _, hcell, hws⟩
  · simp only [List.cons.injEq, and_true] at hcs
    subst hcs
    exact ⟨[], Src.nil _ _ _ _, by simp, by simp⟩
  · simp only [List.cons.injEq, and_true] at hcs
    subst hcs
    have hlen : (ss.take len).length = len := by
      rw [List.length_take]
      split at hz <;> omega
    refine ⟨ss.take len, ?_, by rw [hlen]; omega, fun s hs => hws s (List.mem_of_mem_take hs)⟩
    rw [hlen]
    have hone : ∀ u ∈ textsV (ss.take len), u.oneCell' = true := by
      intro u hu
      simp only [textsV, List.mem_map] at hu
      obtain ⟨b, _, rfl⟩ := hu
      rfl
    refine ⟨by simp [hlen], hone, some a, cap, rfl, ?_⟩
    by_cases h0 : len = 0
    · exact .inl h0
    · have hss : 0 < ss.length := by
        have := List.length_take (i := len) (l := ss)
        omega
      have hc := hcell 0 hss
      obtain ⟨b, off, spot⟩ := a
      obtain rfl : spot = none := by simpa [Addr.add] using World.cell?_spot hc
      refine .inr ⟨b, off, rfl, fun j u hu => ?_⟩
      have hj : j < len := by
        have := (List.getElem?_eq_some_iff.1 hu).1
        simpa [hlen] using this
      have hjs : j < ss.length := by
        have := List.length_take (i := len) (l := ss)
        omega
      rw [← Src.add_lit, hcell j hjs]
      rw [textsV, List.getElem?_map, List.getElem?_take_of_lt hj, List.getElem?_eq_getElem hjs] at hu
      simp only [Option.map_some] at hu
      rw [← hu]
      simp [hjs]

set_option maxRecDepth 100000 in
/-- A result that came in. -/
theorem open_result {r : Reach} {b0 : Nat} {v : Value} {d : DataW H} {p : List MemPlace} (hv : Value.okWide Try.prog w r b0 28 v) (h : DataW.Trod enc Try.prog w base spare held 28 v d p) :
    ∃ (code num : Int) (items : List ByteArray) (u : Value), v = .agg #[.int .i64 code, .int .i64 num, u] ∧ Src w 1 u items.length (textsV items) ∧ items.length ≤ maxLen ∧ ∀ s ∈ items, s.size ≤ maxLen := by
  obtain ⟨v0, v1, v2, y0, y1, y2, n, rfl, _, _, h0, h1, h2⟩ := open_agg3 Try.underlying28 (by kernel_rfl) (by kernel_rfl) hv h
  obtain ⟨n0, e0, _, _⟩ := DataW.trod_int Try.underlying3 h0
  obtain ⟨n1, e1, _, _⟩ := DataW.trod_int Try.underlying3 h1
  simp only [List.cons.injEq, and_true] at e0 e1
  subst e0; subst e1
  obtain ⟨items, hs, hl, hz⟩ := open_texts h2
  exact ⟨n0, n1, items, v2, rfl, hs, hl, hz⟩
end
end Go.Proofs.Ytfahakmnlmlgcaa
