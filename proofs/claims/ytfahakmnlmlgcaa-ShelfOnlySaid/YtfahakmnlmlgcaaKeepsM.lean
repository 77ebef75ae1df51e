/-
  What ShelfKeeps keeps in memory: the shelf, what was pushed, the groups.
-/
import Derived.Test.YtfahakmnlmlgcaaTold
import Derived.Test.YtfahakmnlmlgcaaShown
namespace Go.Proofs.Ytfahakmnlmlgcaa
open Go.RowKit Go.Lib
set_option linter.unusedVariables false
set_option linter.unusedSimpArgs false

/-- Ops as cells. -/
def opV (o : OpS) : List Value := [.int .i64 o.kind, .string o.name, .string o.text, .int .i64 o.num, .int .i64 o.most]
def opsV (l : List OpS) : List Value := l.flatMap opV
theorem opsV_length (l : List OpS) : (opsV l).length = l.length * 5 := by
  induction l with
  | nil => rfl
  | cons p l ih => rw [show opsV (p :: l) = opV p ++ opsV l from rfl, List.length_append, ih]; simp [opV]; omega
theorem opsV_get : ∀ (l : List OpS) (k j : Nat) (h : k < l.length), j < 5 → (opsV l)[k * 5 + j]? = (opV l[k])[j]?
  | p :: l, 0, j, _, hj => by
    rw [show opsV (p :: l) = opV p ++ opsV l from rfl, List.getElem?_append_left (by simp [opV]; omega)]
    simp
  | p :: l, k + 1, j, h, hj => by
    have ih := opsV_get l k j (by simpa using h) hj
    rw [show opsV (p :: l) = opV p ++ opsV l from rfl, List.getElem?_append_right (by simp [opV]; omega)]
    have e : (k + 1) * 5 + j - (opV p).length = k * 5 + j := by simp [opV]; omega
    rw [e, ih]; simp

theorem Row.cap {F : Nat → Prop} {w : World} {e size n : Nat} {A : Option Addr} {c : Nat} {xs : List Value} (h : Row F w e size (.slice A n c) n xs) : n ≤ c ∧ c ≤ maxLen := by
  rcases h.1.2 with ⟨hv, h0⟩ | ⟨g, cap, cur, hv, _, _, h1, h2, _⟩
  · injection hv with _ _ hc
    subst hc; subst h0
    exact ⟨Nat.le_refl _, Nat.zero_le _⟩
  · injection hv with _ _ hc
    subst hc
    exact ⟨h1, h2⟩

/-- The memory of the law, from the world w on. -/
def KMem (w wr : World) (g b4 : Nat) (S : Nat → Option Qu) (pushed : List ByteArray) (gs : List (ByteArray × Int)) (vp vg : Value) : Prop :=
  ∃ F Fp Fg x y z, ShelfAt F wr g S ∧ Row Fp wr 9 1 vp pushed.length (textsV pushed) ∧ Row Fg wr 99 2 vg gs.length (groupsI gs) ∧ wr.heap[b4]? = some (.cells #[x, y, z] 28 (0, 0)) ∧ Below w.heap.size w wr ∧
    (∀ k, F k → w.heap.size ≤ k ∧ k < wr.heap.size ∧ ¬ Fp k ∧ ¬ Fg k ∧ k ≠ b4) ∧ (∀ k, Fp k → w.heap.size ≤ k ∧ k < wr.heap.size ∧ k ≠ b4) ∧ (∀ k, Fg k → w.heap.size ≤ k ∧ k < wr.heap.size ∧ k ≠ b4) ∧ w.heap.size ≤ b4

theorem KMem.below {w wr w' : World} {g b4 : Nat} {S : Nat → Option Qu} {pushed : List ByteArray} {gs : List (ByteArray × Int)} {vp vg : Value} (h : KMem w wr g b4 S pushed gs vp vg) (hb : Below wr.heap.size wr w') : KMem w w' g b4 S pushed gs vp vg := by
  obtain ⟨F, Fp, Fg, x, y, z, sh, rp, rg, h4, hbw, hF, hFp, hFg, hb4⟩ := h
  have k : Keep (fun _ => False) wr w' := Keep.of_below hb
  have hz := hb.size
  exact ⟨F, Fp, Fg, x, y, z, sh.keep k (fun _ _ h => h), rp.keep k (fun _ _ h => h), rg.keep k (fun _ _ h => h), k.heap h4 (fun h => h), hbw.trans (hb.mono hbw.size),
    fun k hk => have := hF k hk; ⟨this.1, by omega, this.2.2⟩, fun k hk => have := hFp k hk; ⟨this.1, by omega, this.2.2⟩, fun k hk => have := hFg k hk; ⟨this.1, by omega, this.2.2⟩, hb4⟩

/-- Behind a Do, and its result laid into b4. -/
theorem kmem_after {w wr w2 W3 : World} {g b4 : Nat} {S' : Nat → Option Qu} {pushed : List ByteArray} {gs : List (ByteArray × Int)} {vp vg : Value} {F Fp Fg F2 : Nat → Prop} {ob : Obj} {p q r : Value} {Q : Nat → Prop}
    (rp : Row Fp wr 9 1 vp pushed.length (textsV pushed)) (rg : Row Fg wr 99 2 vg gs.length (groupsI gs)) (hb : Below w.heap.size w wr)
    (hF : ∀ k, F k → w.heap.size ≤ k ∧ k < wr.heap.size ∧ ¬ Fp k ∧ ¬ Fg k ∧ k ≠ b4) (hFp : ∀ k, Fp k → w.heap.size ≤ k ∧ k < wr.heap.size ∧ k ≠ b4) (hFg : ∀ k, Fg k → w.heap.size ≤ k ∧ k < wr.heap.size ∧ k ≠ b4) (hb4 : w.heap.size ≤ b4) (h4 : b4 < wr.heap.size)
    (s2 : ShelfAt F2 w2 g S') (hF2 : ∀ k, F2 k → F k ∨ (Made (wr.alloc ob) w2 k ∧ Q k)) (k2 : Keep F (wr.alloc ob) w2) (kW3 : Keep (fun k => k = b4) w2 W3) (zW3 : W3.heap.size = w2.heap.size)
    (tW3 : W3.heap[b4]? = some (.cells #[p, q, r] 28 (0, 0))) : KMem w W3 g b4 S' pushed gs vp vg := by
  have z1 := hb.size
  have z2 := k2.size
  simp at z2
  have ka : Keep (fun _ => False) wr (wr.alloc ob) := (Keep.refl _ _).alloc _
  have l2 : ∀ k, F2 k → w.heap.size ≤ k ∧ k ≠ b4 ∧ ¬ Fp k ∧ ¬ Fg k := by
    intro k hk
    rcases hF2 k hk with h | h
    · have := hF k h; exact ⟨this.1, this.2.2.2.2, this.2.2.1, this.2.2.2.1⟩
    · have h1 := h.1.1
      simp at h1
      exact ⟨by omega, by omega, fun h => by have := (hFp k h).2.1; omega, fun h => by have := (hFg k h).2.1; omega⟩
  have kall : Keep (fun k => F k ∨ k = b4) wr W3 := (((ka.mono (N := fun k => F k ∨ k = b4) (fun _ _ h => h.elim)).trans k2 (fun _ _ h => .inl h)).trans kW3 (fun _ _ h => .inr h))
  refine ⟨fun k => F2 k ∧ k < w2.heap.size, Fp, Fg, p, q, r, s2.cut.keep kW3 (fun k hk e => (l2 k hk.1).2.1 e), ?_, ?_, tW3, ?_, fun k hk => ?_, fun k hk => ?_, fun k hk => ?_, hb4⟩
  · exact rp.keep kall (fun k hk h => h.elim (fun h => (hF k h).2.2.1 hk) (fun e => (hFp k hk).2.2 e))
  · exact rg.keep kall (fun k hk h => h.elim (fun h => (hF k h).2.2.2.1 hk) (fun e => (hFg k hk).2.2 e))
  · exact hb.trans (kall.belowB z1 (fun k hk h => h.elim (fun h => by have := (hF k h).1; omega) (fun e => by omega)))
  · have := l2 k hk.1; exact ⟨this.1, by have := hk.2; omega, this.2.2.1, this.2.2.2, this.2.1⟩
  · have := hFp k hk; exact ⟨this.1, by omega, this.2.2⟩
  · have := hFg k hk; exact ⟨this.1, by omega, this.2.2⟩

/-- One more was pushed. -/
theorem kmem_push {w W3 w4 : World} {g b4 : Nat} {S : Nat → Option Qu} {pushed : List ByteArray} {gs : List (ByteArray × Int)} {vp vg v4 : Value} {t : ByteArray} {F Fp Fg : Nat → Prop} {ob : Obj} {x y z : Value}
    (sh : ShelfAt F W3 g S) (rp : Row Fp W3 9 1 vp pushed.length (textsV pushed)) (rg : Row Fg W3 99 2 vg gs.length (groupsI gs)) (h4 : W3.heap[b4]? = some (.cells #[x, y, z] 28 (0, 0))) (hbw : Below w.heap.size w W3)
    (hF : ∀ k, F k → w.heap.size ≤ k ∧ k < W3.heap.size ∧ ¬ Fp k ∧ ¬ Fg k ∧ k ≠ b4) (hFp : ∀ k, Fp k → w.heap.size ≤ k ∧ k < W3.heap.size ∧ k ≠ b4) (hFg : ∀ k, Fg k → w.heap.size ≤ k ∧ k < W3.heap.size ∧ k ≠ b4) (hb4 : w.heap.size ≤ b4)
    (hr4 : Row (Grow Fp (W3.alloc ob) w4) w4 9 1 v4 (pushed.length + 1) (textsV pushed ++ [.string t])) (hg4 : (W3.alloc ob).grownBy w4 vp.ownBlock) : KMem w w4 g b4 S (pushed ++ [t]) gs v4 vg := by
  have k4 : Keep (fun k => vp.ownBlock = some k) W3 w4 := ((Keep.refl _ W3).alloc _).grown hg4 (fun b hb => .inl hb)
  have z4 := k4.size
  have z0 := hbw.size
  have l4 := lt_of_heap h4
  have hz : (W3.alloc ob).heap.size = W3.heap.size + 1 := by simp
  refine ⟨F, fun k => Grow Fp (W3.alloc ob) w4 k, Fg, x, y, z, sh.keep k4 (fun k hk e => (hF k hk).2.2.1 (rp.2 k e)), ?_, ?_, ?_, ?_, fun k hk => ?_, fun k hk => ?_, fun k hk => ?_, hb4⟩
  · simpa [textsV] using hr4
  · have hne := rg.ne_row rp (by decide)
    exact ⟨k4.row rg.1 (fun k hk e => hne k hk e), rg.2⟩
  · exact k4.heap h4 (fun e => (hFp _ (rp.2 _ e)).2.2 rfl)
  · exact hbw.trans (k4.belowB z0 (fun k hk e => by have := (hFp _ (rp.2 _ e)).1; omega))
  · have h := hF k hk
    exact ⟨h.1, by omega, fun hg => hg.elim h.2.2.1 (fun hg => by have := hg.1; omega), h.2.2.2.1, h.2.2.2.2⟩
  · rcases hk with hk | hk
    · have := hFp k hk; exact ⟨this.1, by omega, this.2.2⟩
    · have h1 := hk.1; have h2 := hk.2; exact ⟨by omega, h2, by omega⟩
  · have := hFg k hk; exact ⟨this.1, by omega, this.2.2⟩

/-- Other groups. -/
theorem kmem_took {w W3 w4 : World} {g b4 : Nat} {S : Nat → Option Qu} {pushed : List ByteArray} {gs gs' : List (ByteArray × Int)} {vp vg v4 : Value} (h : KMem w W3 g b4 S pushed gs vp vg)
    (hr4 : Row (Made W3 w4) w4 99 2 v4 gs'.length (groupsI gs')) (hb : Below W3.heap.size W3 w4) : KMem w w4 g b4 S pushed gs' vp v4 := by
  have h' := h.below hb
  obtain ⟨F, Fp, Fg, x, y, z, sh, rp, rg, h4, hbw, hF, hFp, hFg, hb4⟩ := h
  obtain ⟨F', Fp', Fg', x', y', z', sh', rp', rg', h4', hbw', hF', hFp', hFg', _⟩ := h'
  have k : Keep (fun _ => False) W3 w4 := Keep.of_below hb
  have hz := hb.size
  have z0 := hbw.size
  have l4 := lt_of_heap h4
  exact ⟨F, Fp, Made W3 w4, x, y, z, sh.keep k (fun _ _ h => h), rp.keep k (fun _ _ h => h), hr4, k.heap h4 (fun h => h), hbw',
    fun k hk => have := hF k hk; ⟨this.1, by omega, this.2.2.1, fun hm => by have := hm.1; omega, this.2.2.2.2⟩, fun k hk => have := hFp k hk; ⟨this.1, by omega, this.2.2⟩, fun k hk => ⟨by have := hk.1; omega, hk.2, by have := hk.1; omega⟩, hb4⟩

def shQ : Nat → Option Qu := put (fun _ => none) 0 (some ⟨bQ, 0, [], []⟩)
theorem shQ1 : doS (fun _ => none) ⟨1, bQ, ⟨#[]⟩, 0, 0⟩ = ⟨⟨0, 0, []⟩, 0, 0, shQ⟩ := by
  have hf : firstK (isQ (fun _ => none) bQ) = none := rfl
  have hr : firstK (isFree (fun _ => none)) = some 0 := rfl
  have ha : act (fun _ => none) 0 ⟨1, bQ, ⟨#[]⟩, 0, 0⟩ = (⟨0, 0, []⟩, shQ) := rfl
  have hb : slotB (shQ 0) = [1, 113, 0, 0, 0] := by
    show tb bQ ++ varint 0 ++ varint 0 ++ [].flatMap tb ++ varint 0 ++ (srtK (·.1) ([] : List (ByteArray × Nat))).flatMap gb = _
    simp [tb, srtK, varint_small, bQ, ByteArray.size]
  rw [doS, if_neg (by decide), if_neg (by decide)]
  simp only [hf, hr]
  rw [if_pos trivial]
  simp only [ha]
  rw [if_neg (by rw [hb]; decide)]; rfl
theorem callQ (F : Nat → Prop) (w : World) (g : Nat) (h : ShelfAt F w g (fun _ => none)) : Calls Try.prog 12 #[.pointer (some ⟨g, 0, none⟩), .agg #[.int .i64 1, .string ⟨#[113]⟩, .string ⟨#[]⟩, .int .i64 0, .int .i64 0]] w fun e w' =>
    ∃ A c F', e = .returned (.tuple #[.agg #[.int .i64 0, .int .i64 0, .slice A 0 c], .int .i64 0, .int .i64 0]) ∧ Row (Made w w') w' 9 1 (.slice A 0 c) 0 [] ∧ ShelfAt F' w' g shQ ∧ (∀ k, F' k → F k ∨ (Made w w' k ∧ (Value.slice A 0 c).ownBlock ≠ some k)) ∧ Keep F w w' := by
  have := do_any F w g _ ⟨1, bQ, ⟨#[]⟩, 0, 0⟩ h good_none
  rw [shQ1] at this
  exact this.mono fun e w' ⟨A, c, F', he, h1, h2, h3, h4⟩ => ⟨A, c, F', he, h1, h2, h3, h4⟩
theorem kinv0 : KInv shQ [] [] := by
  have hg := doS_good good_none ⟨1, bQ, ⟨#[]⟩, 0, 0⟩
  rw [shQ1] at hg
  exact ⟨hg, 0, _, by omega, rfl, rfl, rfl, rfl, by simp⟩
end Go.Proofs.Ytfahakmnlmlgcaa
