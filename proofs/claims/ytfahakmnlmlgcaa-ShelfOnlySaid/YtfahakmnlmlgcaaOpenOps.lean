/-
  An argument opened: a list of ops.
-/
import Derived.Test.YtfahakmnlmlgcaaOpen
import Derived.Test.YtfahakmnlmlgcaaKeepsM
import Derived.SizedLaws
namespace Go.Proofs.Ytfahakmnlmlgcaa
open Go.ChangeShapes Go.WideShapes Go.ChangeAt Go.RowKit Go.Joins Go.Deep
set_option linter.unusedVariables false
set_option linter.unusedSimpArgs false

theorem Try.bytesOp : Try.prog.bytesOf 33 = 56 := by kernel_rfl

section
variable {H : Type} {enc : TypeId × Value → H} {P : Program} {w : World} {base : Nat} {spare : Nat → Bool} {held : Bool}
/-- A slice of structs whose fields are of one cell each. -/
theorem open_slice_of {t e : TypeId} {fs : Array Field} {fuel : Nat} {cs : List Value} {x : DataW H × List MemPlace} (ht : P.underlying t = some (.slice e)) (he : P.underlying e = some (.struct fs))
    (hone : oneCellFields P fs = true) (hC : P.cellsOf e = fs.size) (h : DataW.trod enc P w base spare held fuel t cs = some x) :
    (cs = [.slice none 0 0] ∧ x = (.nil, [])) ∨
    ∃ (a : Addr) (len cap m : Nat) (D : Nat → DataW H) (Pl : Nat → List MemPlace), cs = [.slice (some a) len cap] ∧ base ≤ a.block ∧ len ≤ cap ∧ cap ≤ maxLen ∧ m = (if spare a.block then cap else len) ∧
      x = (.slice ((List.range len).map D) ((List.range (m - len)).map fun j => D (len + j)), MemPlace.row a (m * fs.size) ++ (List.range m).flatMap Pl) ∧
      ∀ i, i < m → ∃ (ys : List (DataW H × List MemPlace)) (n : Nat), D i = .agg (ys.map (·.1)) ∧ Pl i = ys.flatMap (·.2) ∧ ys.length = fs.size ∧
        ∀ (j : Nat) (f : Field), fs[j]? = some f → ∃ (v : Value) (y : DataW H × List MemPlace), w.cell? (a.add (i * fs.size + j)) = some v ∧ ys[j]? = some y ∧ DataW.trod enc P w base spare held n f.type [v] = some y := by
  rcases open_slice ht h with h0 | ⟨a, len, cap, m, n, D, Pl, hcs, hb, hl, hm, hmm, hx, hi⟩
  · exact .inl h0
  · refine .inr ⟨a, len, cap, m, D, Pl, hcs, hb, hl, hm, hmm, by rw [hC] at hx; exact hx, fun i him => ?_⟩
    obtain ⟨cs', hc, ht'⟩ := hi i him
    rw [hC] at hc
    obtain ⟨ys, n', hn', hy, hlen, hyl, hf⟩ := DataW.trod_struct he ht'
    obtain ⟨_, hcl, hat⟩ := World.cells?_some hc
    simp only [Prod.mk.injEq] at hy
    refine ⟨ys, n', hy.1, hy.2, hyl, fun j f hj => ?_⟩
    obtain ⟨ho, hk⟩ := hone_of hone j f hj
    have hjl : j < fs.size := (Array.getElem?_eq_some_iff.1 hj).1
    have hcell := hat j hjl
    have hv : cs'[j]? = some (cs'[j]'(by omega)) := List.getElem?_eq_getElem (by omega)
    have h1 := hf j f hj
    rw [ho, hk] at h1
    have hone' : (cs'.drop j).take 1 = [cs'[j]'(by omega)] := by
      rw [List.drop_eq_getElem_cons (by omega)]
      rfl
    rw [hone'] at h1
    have hys : ys[j]? = some (ys[j]'(by omega)) := List.getElem?_eq_getElem (by omega)
    refine ⟨_, _, ?_, hys, h1.trans hys⟩
    rw [← Go.Deep.add_add, hcell, hv]
end

section
variable {H : Type} {enc : TypeId × Value → H} {w : World} {base : Nat} {spare : Nat → Bool} {held : Bool}
theorem opsV_one (l : List OpS) : ∀ u ∈ opsV l, u.oneCell' = true := by
  intro u hu
  simp only [opsV, List.mem_flatMap] at hu
  obtain ⟨o, _, ho⟩ := hu
  simp [opV] at ho
  rcases ho with rfl | rfl | rfl | rfl | rfl <;> rfl

set_option maxRecDepth 100000 in
/-- A list of ops that came in. -/
theorem open_ops {fuel : Nat} {v : Value} {x : DataW H × List MemPlace} (h : DataW.trod enc Try.prog w base spare held fuel 22 [v] = some x) :
    ∃ ops : List OpS, Src w 5 v ops.length (opsV ops) ∧ (ops = [] ∨ ∃ elems rest, x.1 = .slice elems rest ∧ elems.length = ops.length) := by
  rcases open_slice_of Try.underlying22 Try.underlying33 (by kernel_rfl) (by kernel_rfl) h with ⟨hcs, _⟩ | ⟨a, len, cap, m, D, Pl, hcs, _, hl, hm, hmm, hx, hi⟩
  · simp only [List.cons.injEq, and_true] at hcs
    subst hcs
    exact ⟨[], Src.nil _ _ _ _, .inl rfl⟩
  · simp only [List.cons.injEq, and_true] at hcs
    subst hcs
    have hlm : len ≤ m := by rw [hmm]; split <;> omega
    have each : ∀ i, i < m → ∃ o : OpS, ∀ j u, (opV o)[j]? = some u → w.cell? (a.add (i * 5 + j)) = some u := by
      intro i him
      obtain ⟨ys, n, _, _, _, hf⟩ := hi i him
      obtain ⟨v0, y0, c0, _, h0⟩ := hf 0 _ rfl
      obtain ⟨v1, y1, c1, _, h1⟩ := hf 1 _ rfl
      obtain ⟨v2, y2, c2, _, h2⟩ := hf 2 _ rfl
      obtain ⟨v3, y3, c3, _, h3⟩ := hf 3 _ rfl
      obtain ⟨v4, y4, c4, _, h4⟩ := hf 4 _ rfl
      obtain ⟨n0, e0, _, _⟩ := DataW.trod_int Try.underlying3 h0
      obtain ⟨n1, e1, _, _⟩ := DataW.trod_string Try.underlying9 h1
      obtain ⟨n2, e2, _, _⟩ := DataW.trod_string Try.underlying9 h2
      obtain ⟨n3, e3, _, _⟩ := DataW.trod_int Try.underlying3 h3
      obtain ⟨n4, e4, _, _⟩ := DataW.trod_int Try.underlying3 h4
      simp only [List.cons.injEq, and_true] at e0 e1 e2 e3 e4
      subst e0; subst e1; subst e2; subst e3; subst e4
      refine ⟨⟨n0, n1, n2, n3, n4⟩, fun j u hu => ?_⟩
      have hj : j < 5 := by
        have := (List.getElem?_eq_some_iff.1 hu).1
        simpa [opV] using this
      have hj' : j = 0 ∨ j = 1 ∨ j = 2 ∨ j = 3 ∨ j = 4 := by omega
      rcases hj' with rfl | rfl | rfl | rfl | rfl <;> (simp [opV] at hu; subst hu) <;> assumption
    obtain ⟨f, hf⟩ : ∃ f : Nat → OpS, ∀ i, i < m → ∀ j u, (opV (f i))[j]? = some u → w.cell? (a.add (i * 5 + j)) = some u := by
      refine ⟨fun i => if hi : i < m then Classical.choose (each i hi) else ⟨0, ⟨#[]⟩, ⟨#[]⟩, 0, 0⟩, fun i hi => ?_⟩
      simp only [dif_pos hi]
      exact Classical.choose_spec (each i hi)
    have hlen : ((List.range len).map f).length = len := by simp
    refine ⟨(List.range len).map f, ?_, .inr ⟨_, _, by rw [hx], by simp⟩⟩
    rw [hlen]
    refine ⟨by rw [opsV_length, hlen], opsV_one _, some a, cap, rfl, ?_⟩
    by_cases h0 : len = 0
    · exact .inl h0
    · have hc := hf 0 (by omega) 0 _ rfl
      obtain ⟨b, off, spot⟩ := a
      obtain rfl : spot = none := by simpa [Addr.add] using World.cell?_spot hc
      refine .inr ⟨b, off, rfl, fun j u hu => ?_⟩
      have hj : j < len * 5 := by
        have := (List.getElem?_eq_some_iff.1 hu).1
        rwa [opsV_length, hlen] at this
      have hd : j / 5 < len := by omega
      have hr : j % 5 < 5 := by omega
      have he : j / 5 * 5 + j % 5 = j := by omega
      have hg := opsV_get ((List.range len).map f) (j / 5) (j % 5) (by simpa using hd) hr
      rw [he, hu] at hg
      have := hf (j / 5) (by omega) (j % 5) u (by rw [hg]; simp)
      rw [he] at this
      rw [← Src.add_lit]
      exact this
end
end Go.Proofs.Ytfahakmnlmlgcaa
