/-
  The contract of Queues.
-/
import Derived.Test.YtfahakmnlmlgcaaShelfK
import Derived.Deep.RegionHeld3
import Derived.Deep.MidRow
namespace Go.Proofs.Ytfahakmnlmlgcaa
open Go.RowKit Go.Lib Go.Sort Go.Shelf Go.Proofs
set_option linter.unusedVariables false
set_option linter.unusedSimpArgs false

/-- A queue as it is told: its cells. -/
structure RQ where
  name : ByteArray
  first : Nat
  itA : Option Addr
  itn : Nat
  itc : Nat
  grA : Option Addr
  grn : Nat
  grc : Nat
instance : Inhabited RQ := ⟨⟨ByteArray.empty, 0, none, 0, 0, none, 0, 0⟩⟩
instance : Inhabited Qu := ⟨⟨ByteArray.empty, 0, [], []⟩⟩
def RQ.it (r : RQ) : Value := .slice r.itA r.itn r.itc
def RQ.gr (r : RQ) : Value := .slice r.grA r.grn r.grc
def encQ (r : RQ) : List Value := [.string r.name, .int .i64 r.first, r.it, r.gr]

theorem Try.infoQueue : (Try.prog.info? 118).map (fun i => (i.zero, i.size, i.bytes)) = some (some (.agg #[.string ⟨#[]⟩, .int .i64 0, .slice none 0 0, .slice none 0 0]), 4, 72) := by kernel_rfl

theorem SC.cells_eq (cs : Array Value) (k : Nat) (hz : cs.size = 40) (hk : k < 8) (s : SC) (hj : ∀ j, j < 5 → cs[k * 5 + j]? = some (s.get j)) : cs.extract (k * 5) (k * 5 + 5) = #[.bool s.used, .string s.name, .int .i64 s.first, .slice s.A s.n s.c, .map s.m] := by
  apply Array.ext (by simp; omega)
  intro j h1 h2
  have hj5 : j < 5 := by simpa using h2
  have h3 := hj j hj5
  rw [Array.getElem?_eq_some_iff] at h3
  obtain ⟨h4, h5⟩ := h3
  simp only [Array.getElem_extract, h5]
  have hj' : j = 0 ∨ j = 1 ∨ j = 2 ∨ j = 3 ∨ j = 4 := by omega
  rcases hj' with rfl | rfl | rfl | rfl | rfl <;> rfl

theorem Try.idx8 (W : World) (cs : Array Value) (k : Nat) (hz : cs.size = 40) (hk : k < 8) (s : SC) (hj : ∀ j, j < 5 → cs[k * 5 + j]? = some (s.get j)) :
    (Instr.index 87 (.agg cs) (.int .i64 k)).run Try.prog W = .ok (.agg #[.bool s.used, .string s.name, .int .i64 s.first, .slice s.A s.n s.c, .map s.m]) W := by
  have hu := run_underlying (P := Try.prog) Try.underlying87 W
  have hk' : (k : Int) < 8 := by omega
  unfold Instr.index
  simp [asIntOf, Sem.run_bind, Sem.run_pure, hu, part, Try.isAgg86 W, Try.sizeOf86 W, hk', SC.cells_eq cs k hz hk s hj]
  intro h; omega

theorem wpList_val {P : Program} {w : World} {ops : Array Oper} {rest : List Oper} {o : Oper} {a : Act} {Q : Exit → Act → World → Prop} (hg : o.guard = none) (t : TypeId) (x i : Operand) (hop : o.op = .index t x i) {vx vi v : Value} (hx : a.eval x = vx) (hi : a.eval i = vi)
    (hr : (Instr.index t vx vi).run P w = .ok v w) (h : wpList P ops Q rest (a.put o.dst v) w) : wpList P ops Q (o :: rest) a w := by
  refine wpList_plain hg fun K' hK' => ?_
  unfold Oper.wp
  simp [execOp, hop, hx, hi, hr, Result.andThen]
  exact hK' _ _ h

/-- A queue as it is told. -/
def QAt (F : Nat → Prop) (w : World) (r : RQ) (q : Qu) : Prop :=
  r.name = q.name ∧ r.first = q.first ∧ Row F w 9 1 r.it q.items.length (textsV q.items) ∧ Row F w 99 2 r.gr q.groups.length (groupsV (srtK (·.1) q.groups))
/-- The rows of two queues are apart. -/
def Apart (a b : RQ) : Prop := ∀ k, (a.it.ownBlock = some k → b.it.ownBlock ≠ some k) ∧ (a.gr.ownBlock = some k → b.gr.ownBlock ≠ some k)

def encP (p : RQ × Qu) : List Value := encQ p.1
theorem encP_len (p : RQ × Qu) : (encP p).length = 4 := rfl
/-- The queues, by their slots; by their names. -/
def queuesUp (S : Nat → Option Qu) (k : Nat) : List Qu := (List.range k).filterMap S
def listQ (S : Nat → Option Qu) : List Qu := srtK (·.name) (queuesUp S 8)
theorem queuesUp_succ (S : Nat → Option Qu) (k : Nat) : queuesUp S (k + 1) = queuesUp S k ++ (S k).toList := by
  rw [queuesUp, List.range_succ, List.filterMap_append, queuesUp]
  cases h : S k <;> simp [h]
theorem queuesUp_len (S : Nat → Option Qu) (k : Nat) : (queuesUp S k).length ≤ k := by
  have := List.length_filterMap_le S (List.range k); simpa [queuesUp] using this

/-- The rows of the queues that are told. -/
def QsAt (F : Nat → Prop) (w : World) (ps : List (RQ × Qu)) : Prop := (∀ p ∈ ps, QAt F w p.1 p.2) ∧ ps.Pairwise fun a b => Apart a.1 b.1
theorem QsAt.keep {F M : Nat → Prop} {w w' : World} {ps : List (RQ × Qu)} (h : QsAt F w ps) (k : Keep M w w') (hm : ∀ b, F b → ¬ M b) : QsAt F w' ps :=
  ⟨fun p hp => let ⟨a, b, c, d⟩ := h.1 p hp; ⟨a, b, c.keep k hm, d.keep k hm⟩, h.2⟩
theorem QsAt.mono {F G : Nat → Prop} {w : World} {ps : List (RQ × Qu)} (h : QsAt F w ps) (hm : ∀ b, F b → b < w.heap.size → G b) : QsAt G w ps :=
  ⟨fun p hp => let ⟨a, b, c, d⟩ := h.1 p hp; ⟨a, b, c.mono hm, d.mono hm⟩, h.2⟩
theorem Apart.symm {a b : RQ} (h : Apart a b) : Apart b a := fun k => ⟨fun h1 h2 => (h k).1 h2 h1, fun h1 h2 => (h k).2 h2 h1⟩
theorem QsAt.perm {F : Nat → Prop} {w : World} {ps qs : List (RQ × Qu)} (h : QsAt F w ps) (hp : qs.Perm ps) : QsAt F w qs :=
  ⟨fun p hq => h.1 p (hp.mem_iff.1 hq), h.2.perm hp.symm (fun h => h.symm)⟩

theorem Row.ne_row {F G : Nat → Prop} {w : World} {e e' size size' n n' : Nat} {v v' : Value} {xs xs' : List Value} (r : Row F w e size v n xs) (r' : Row G w e' size' v' n' xs') (hne : e ≠ e') : ∀ k, v.ownBlock = some k → v'.ownBlock ≠ some k := by
  intro k hk
  rcases r.1.2 with ⟨rfl, _⟩ | ⟨g', cap, cur, rfl, _, hh, _⟩
  · simp [Value.ownBlock] at hk
  · have : g' = k := by simpa [Value.ownBlock] using hk
    subst this
    exact r'.ne_block hh (fun e => hne e.symm)
theorem Row.keepRow {F G : Nat → Prop} {w w' : World} {e e' size size' n n' : Nat} {v v' : Value} {xs xs' : List Value} (r : Row F w e size v n xs) (r' : Row G w e' size' v' n' xs') (hne : e ≠ e') (k : Keep (fun k => v'.ownBlock = some k) w w') : Row F w' e size v n xs :=
  ⟨k.row r.1 (fun b hb h => r.ne_row r' hne b hb h), r.2⟩
theorem QsAt.keepRow {F G : Nat → Prop} {w w' : World} {ps : List (RQ × Qu)} {n : Nat} {v : Value} {xs : List Value} (h : QsAt F w ps) (r : Row G w 118 4 v n xs) (k : Keep (fun k => v.ownBlock = some k) w w') : QsAt F w' ps :=
  ⟨fun p hp => let ⟨a, b, c, d⟩ := h.1 p hp; ⟨a, b, c.keepRow r (by decide) k, d.keepRow r (by decide) k⟩, h.2⟩

set_option maxRecDepth 100000 in
set_option maxHeartbeats 1000000 in
theorem queues_walk (F : Nat → Prop) (w : World) (g : Nat) (S : Nat → Option Qu) (h : ShelfAt F w g S) (hgl : ∀ k, k < 8 → ∀ q, S k = some q → q.groups.length ≤ 12 ∧ q.items.length ≤ 2000000000000) (hnd : ((queuesUp S 8).map (·.name)).Nodup)
    (hsort : ∀ (F : Nat → Prop) (w : World) (v : Value) (ps : List (RQ × Qu)), ps.length ≤ 12 → Row F w 118 4 v ps.length (ps.flatMap encP) → (ps.map (·.1.name)).Nodup →
      Calls Try.prog 67 #[v, .func (.func 68) #[] #[]] w fun e w' => e = .returned (.tuple #[]) ∧ Row F w' 118 4 v ps.length ((srtK (·.1.name) ps).flatMap encP) ∧ Keep (fun k => v.ownBlock = some k) w w') :
    Calls Try.prog 39 #[.pointer (some ⟨g, 0, none⟩)] w fun e w' => ∃ v ps, e = .returned v ∧ Row (Made w w') w' 118 4 v ps.length (ps.flatMap encP) ∧ QsAt (Made w w') w' ps ∧ ps.map (·.2) = listQ S ∧ Below w.heap.size w w' := by
  obtain ⟨i0, hi0, iz0, iz1, iz2⟩ := info_parts Try.infoQueue
  have hg := h.lt
  obtain ⟨sc, cs, Fi, h1, h2, h3, h4, h5, h6, h7⟩ := h
  have ⟨hc, hf⟩ := cells_of_heap h1
  have hrg : w.rangeAt g 0 cs.toList := fun j v hv => by rw [Nat.zero_add, hc]; simpa using hv
  have hzl : cs.toList.length = 40 := by simpa using h2
  have hld := Lib.hid hrg
  have H2 := Lib.hid h2
  have H3 := Lib.hid h3
  have H7 := Lib.hid h7
  have HND := Lib.hid hnd
  have HGL := Lib.hid hgl
  have HS := Lib.hid hsort
  clear hrg hc hf h1 h2 h3 h4 h5 h6 h7 hnd hgl hsort
  go_enter Try.func39, Try.ntmps39
  go_wp2_with (refine wpList_load_mid rfl 87 _ rfl g 0 rfl cs.toList _ hld.out Try.underlying87 rfl (by rw [hzl]; kernel_rfl) ?_)
  clear hzl hld
  go_loopw [3, 10] (fun v u wr => ∃ (k : Nat) (ps : List (RQ × Qu)), k ≤ 8 ∧ u = .int .i64 k ∧ Row (Made w wr) wr 118 4 v ps.length (ps.flatMap encP) ∧ QsAt (Made w wr) wr ps ∧ ps.map (·.2) = queuesUp S k ∧ Keep (fun _ => False) w wr) (fun _ u _ => 8 - (intOf u).toNat)
  case atStart => exact ⟨0, [], by omega, rfl, Row.nil _ _ _ _, ⟨by simp, List.Pairwise.nil⟩, rfl, Keep.refl _ _⟩
  case round =>
    obtain ⟨k, ps, hk8, rfl, hr, hqs, hps, hk⟩ := hrel
    obtain ⟨A1, c1, rfl⟩ := hr.form
    have HPS := Lib.hid hps
    have hlen : ps.length ≤ 8 := by have := congrArg List.length hps; have := queuesUp_len S k; simp at *; omega
    clear hps
    have hsz := hk.size
    by_cases hlt : k < 8
    · have hup := Lib.hid (queuesUp_succ S k)
      have hs := H7.out k hlt
      have hi := fun W => Try.idx8 W cs k H2.out hlt (sc k) (H3.out k hlt)
      have hlt' : (k : Int) < 8 := by omega
      cases hq : S k with
      | none =>
        rw [hq] at hs hup
        rw [show sc k = SC.zero from hs] at hi
        simp only [SC.zero] at hi
        have hi := Lib.hid hi
        clear hs
        go_wp2_with (refine wpList_val rfl 87 _ _ rfl rfl rfl (hi.out _) ?_)
        go_roundw
        case rel =>
          refine ⟨k + 1, ps, by omega, by go_num, (hr.alloc _).mono (fun b hb _ => ⟨hb.1, by have := hb.2; simp; omega⟩), (hqs.keep ((Keep.refl (fun _ => False) wr).alloc _) (fun _ _ h => h)).mono (fun b hb _ => ⟨hb.1, by have := hb.2; simp; omega⟩), ?_, hk.alloc _⟩
          rw [hup.out, HPS.out]; simp
        case measure => simp [intOf]; omega
      | some q =>
        rw [hq] at hs hup
        obtain ⟨s1, s2, s3, s4, s5, b, s6, s7, s8⟩ := hs
        have hgl := HGL.out k hlt q hq
        rw [s1, s2, s3, s4, s6] at hi
        have S4 := Lib.hid s4
        rw [s4] at s5
        generalize (sc k).A = sA at hi s5
        generalize (sc k).c = sC at hi s5
        have hi := Lib.hid hi
        clear s1 s2 s3 s4 s6
        go_wp2_with (refine wpList_val rfl 87 _ _ rfl rfl rfl (hi.out _) ?_)
        have k4 : Keep (fun _ => False) wr (wr.alloc (.cells #[.bool true, .string q.name, .int .i64 q.first, .slice sA q.items.length sC, .map (some b)] 86)) := (Keep.refl _ wr).alloc _
        have hbox4 := heap_alloc_new wr (.cells #[.bool true, .string q.name, .int .i64 q.first, .slice sA q.items.length sC, .map (some b)] 86)
        have z4 : (wr.alloc (.cells #[.bool true, .string q.name, .int .i64 q.first, .slice sA q.items.length sC, .map (some b)] 86)).heap.size = wr.heap.size + 1 := by simp
        generalize (wr.alloc (.cells #[.bool true, .string q.name, .int .i64 q.first, .slice sA q.items.length sC, .map (some b)] 86)) = w4 at k4 hbox4 z4 ⊢
        obtain ⟨bx, hbx⟩ : ∃ bx, wr.heap.size = bx := ⟨_, rfl⟩
        rw [hbx] at hbox4 z4 ⊢
        have Z4 := Lib.hid z4
        have HBX := Lib.hid hbx
        have z4l : bx < w4.heap.size := by omega
        clear z4 hbx
        have kw4 := hk.trans k4 (fun _ _ h => h)
        have srcD : Src w4.drew 1 (.slice sA q.items.length sC) q.items.length (textsV q.items) := (Src.of_row (s5.keep kw4 (fun _ _ h => h)).drew (textsV_one' _))
        have m4 := s8.keep kw4 (fun h => h)
        have m4l := m4.lt
        have hr4 := hr.keep k4 (fun _ _ h => h)
        have ⟨cx4, fx4⟩ := cells_of_heap hbox4
        have hpl : ps.length + 1 ≤ 9 := by omega
        go_region_held3 (fun w' => w'.cell? ⟨bx, 0, none⟩ = some (.bool true) ∧ w'.cell? ⟨bx, 1, none⟩ = some (.string q.name) ∧ w'.cell? ⟨bx, 2, none⟩ = some (.int .i64 q.first) ∧ w'.cell? ⟨bx, 3, none⟩ = some (.slice sA q.items.length sC) ∧ w'.cell? ⟨bx, 4, none⟩ = some (.map (some b)))
          (first | go_keep | exact ⟨cx5 0, cx5 1, cx5 2, cx5 3, cx5 4⟩ | exact ⟨cx6 0, cx6 1, cx6 2, cx6 3, cx6 4⟩ | exact ⟨cx7 0, cx7 1, cx7 2, cx7 3, cx7 4⟩ | exact ⟨(World.cell?_alloc_lt _ _ _ zx6).trans (cx6 0), (World.cell?_alloc_lt _ _ _ zx6).trans (cx6 1), (World.cell?_alloc_lt _ _ _ zx6).trans (cx6 2), (World.cell?_alloc_lt _ _ _ zx6).trans (cx6 3), (World.cell?_alloc_lt _ _ _ zx6).trans (cx6 4)⟩)
          (first | (go_at_call 65; refine (clone_any _ _ q.items srcD (by omega)).mono ?_; rintro e w5 ⟨v5, rfl, r5, hb5⟩; obtain ⟨A5, c5, rfl⟩ := r5.form; have hbx5 := (hb5.block bx z4l).trans hbox4; have ⟨cx5, fx5⟩ := cells_of_heap hbx5; have m5 : MapAt kS vI w5 b q.groups := m4.same (hb5.block b m4l); have k5 : Keep (fun _ => False) w4 w5 := (Keep.refl _ w4).drew.trans (Keep.of_below (M := fun _ => False) hb5) (fun _ _ h => h))
                    | (go_at_call 66; refine (sgroups_any _ _ _ _ _ _ b _ q.groups m5 hgl.1).mono ?_; rintro e w6 ⟨v6, rfl, r6, hb6⟩; obtain ⟨A6, c6, rfl⟩ := r6.form; have zx6 : bx < w6.heap.size := (by have := k5.size; have := hb6.size; omega); have hbx6 := (hb6.block bx (by have := k5.size; omega)).trans hbx5; have ⟨cx6, fx6⟩ := cells_of_heap hbx6; have k6 : Keep (fun _ => False) w4 w6 := k5.trans (Keep.of_below (M := fun _ => False) hb6) (fun _ _ h => h); have hr6 := hr4.keep k6 (fun _ _ h => h))
                    | (refine step_app rfl _ _ 70 rfl 118 i0 (.agg #[.string ⟨#[]⟩, .int .i64 0, .slice none 0 0, .slice none 0 0]) 4 72 Try.underlying70 hi0 iz0 iz1 iz2 rfl (by decide) (hr6.alloc _) (Src.new _ #[.string q.name, .int .i64 q.first, .slice A5 q.items.length c5, .slice A6 q.groups.length c6] _ (by intro u hu; simp at hu; rcases hu with rfl | rfl | rfl | rfl <;> rfl)) rfl rfl (by unfold maxLen; omega) (by omega) ?_; intro A7 c7 w7 hr7 hg7; have hbx7 := (hg7.block bx (by simp; omega) (fun e => hr6.ne_block hbx6 (by decide) e.symm)).trans ((hp_alloc_lt zx6 _).trans hbx6); have ⟨cx7, fx7⟩ := cells_of_heap hbx7))
        go_wp2_with fail
        have k7 : Keep (fun k => (Value.slice A1 ps.length c1).ownBlock = some k) w6 w7 := ((Keep.refl _ w6).alloc _).grown hg7 (fun k hk => .inl hk)
        have hqs6 := (hqs.keep k4 (fun _ _ h => h)).keep k6 (fun _ _ h => h)
        have hqs7 := hqs6.keepRow hr6 k7
        have hi7 := (r5.keep (Keep.of_below (M := fun _ => False) hb6) (fun _ _ h => h)).keepRow hr6 (by decide) k7
        have hg7' := r6.keepRow hr6 (by decide) k7
        have zb := HBX.out
        have zz := Z4.out
        have zs5 := hb5.size
        have zs6 := hb6.size
        have zs7 := k7.size
        simp only [World.drew] at zs5
        go_roundw
        case rel =>
          refine ⟨k + 1, ps ++ [(⟨q.name, q.first, A5, q.items.length, c5, A6, q.groups.length, c6⟩, q)], by omega, by go_num, ?_, ⟨?_, ?_⟩, ?_, (kw4.trans k6 (fun _ _ h => h)).trans k7 (fun k hk h => by have := (hr.2 k h).1; omega)⟩
          · rw [List.length_append, List.flatMap_append]
            refine hr7.mono (fun b hb hl => ?_)
            rcases hb with hb | hb
            · exact ⟨hb.1, hl⟩
            · exact ⟨by have := hb.1; simp at this; omega, hl⟩
          · intro p hp
            rcases List.mem_append.1 hp with hp | hp
            · obtain ⟨a, b, c, d⟩ := hqs7.1 p hp
              exact ⟨a, b, c.mono (fun b hb hl => ⟨hb.1, hl⟩), d.mono (fun b hb hl => ⟨hb.1, hl⟩)⟩
            · obtain rfl := List.mem_singleton.1 hp
              exact ⟨rfl, rfl, hi7.mono (fun b hb hl => ⟨by have := hb.1; simp only [World.drew] at this; omega, hl⟩), hg7'.mono (fun b hb hl => ⟨by have := hb.1; omega, hl⟩)⟩
          · rw [List.pairwise_append]
            refine ⟨hqs7.2, by simp, fun p hp p' hp' => ?_⟩
            obtain rfl := List.mem_singleton.1 hp'
            obtain ⟨_, _, c, d⟩ := hqs.1 p hp
            intro k
            refine ⟨fun h1 h2 => ?_, fun h1 h2 => ?_⟩
            · have := (c.2 k h1).2
              have := (r5.2 k h2).1
              simp only [World.drew] at this
              omega
            · have := (d.2 k h1).2
              have := (r6.2 k h2).1
              omega
          · rw [hup.out, List.map_append, HPS.out]; rfl
        case measure => simp [intOf]; omega
    · obtain rfl : k = 8 := by omega
      have hkn : ps.map (·.1.name) = (queuesUp S 8).map (·.name) := by
        rw [← HPS.out, List.map_map]
        exact List.map_congr_left (fun p hp => (hqs.1 p hp).1)
      have hs := HS.out (Made w wr) wr (.slice A1 ps.length c1) ps (by omega) hr (by rw [hkn]; exact HND.out)
      go_wp2_with fail
      refine hs.mono ?_
      rintro e w2 ⟨rfl, hr2, hk2⟩
      go_wp2
      go_ret
      have hpm := srtK_perm (fun p : RQ × Qu => p.1.name) ps
      have hsz2 := hk2.size
      refine ⟨_, srtK (fun p : RQ × Qu => p.1.name) ps, rfl, ?_, ((hqs.keepRow hr hk2).perm hpm).mono (fun b hb hl => ⟨hb.1, hl⟩), ?_, (hk.trans hk2 (fun k hk h => by have := (hr.2 k h).1; omega)).below (fun _ _ h => h)⟩
      · rw [srtK_length]; exact hr2.mono (fun b hb hl => ⟨hb.1, hl⟩)
      · rw [listQ, ← HPS.out]
        exact srtK_map (·.2) _ _ ps (fun p hp => (hqs.1 p hp).1)

theorem encP_one (p : RQ × Qu) : ∀ v ∈ encP p, v.oneCell' = true := by
  intro v hv; simp [encP, encQ, RQ.it, RQ.gr] at hv; rcases hv with rfl | rfl | rfl | rfl <;> rfl
def cfQ (x y : RQ × Qu) : Int := cmpS x.1.name y.1.name
theorem cfQ_lt (x y : RQ × Qu) : ltOf cfQ x y = ltB x.1.name y.1.name := cmpS_lt _ _

theorem queues1_any (x y : RQ × Qu) (W : World) : Calls Try.prog 68 #[.agg (encP x).toArray, .agg (encP y).toArray] W fun e w' => e = .returned (.int .i64 (cfQ x y)) ∧ ∃ q os', w' = grow (W.drewN q) os' := by
  obtain ⟨⟨a, f, A, n, c, B, m, d⟩, _⟩ := x
  obtain ⟨⟨a', f', A', n', c', B', m', d'⟩, _⟩ := y
  simp only [cfQ]
  have hcon := fun W' => cmp_any a a' W'
  generalize cmpS a a' = r at hcon ⊢
  show Calls Try.prog 68 #[.agg #[.string a, .int .i64 f, .slice A n c, .slice B m d], .agg #[.string a', .int .i64 f', .slice A' n' c', .slice B' m' d']] W _
  go_enter Try.func68, Try.ntmps68
  go_wp2_with (go_at_call 69; refine (hcon _).mono ?_; rintro e w' ⟨rfl, rfl⟩)
  go_ret
  exact ⟨rfl, 0, _, by rw [alloc_eq_grow, alloc_eq_grow, grow_grow]; rfl⟩

theorem insQ_nil (w : World) : Calls Try.prog 92 #[.slice none 0 0, .int .i64 0, .int .i64 0, .func (.func 68) #[] #[]] w fun e w' => e = .returned (.tuple #[]) ∧ w = w' := by
  go_enter Try.func92, Try.ntmps92
  go_wp2_with fail
  refine wp_loop_rounds 1 ?_
  rw [rounds_succ]
  go_wp2
  go_end0
  simp
theorem pdqQ_nil (w : World) (n : Int) : Calls Try.prog 85 #[.slice none 0 0, .int .i64 0, .int .i64 0, .int .i64 n, .func (.func 68) #[] #[]] w fun e w' => e = .returned (.tuple #[]) ∧ w = w' := by
  go_enter Try.func85, Try.ntmps85
  go_wp2_with fail
  refine wp_loop_rounds 1 ?_
  rw [rounds_succ]
  go_wp2_with (go_at_call 92; refine (insQ_nil _).mono ?_; rintro e w' ⟨rfl, rfl⟩)
  refine bodyPost_ret (results_none rfl _ _ _) rfl ⟨rfl, rfl⟩
theorem sortQ_nil (w : World) : Calls Try.prog 67 #[.slice none 0 0, .func (.func 68) #[] #[]] w fun e w' => e = .returned (.tuple #[]) ∧ w = w' := by
  have hl := len_any 0 w (by omega)
  go_enter Try.func67, Try.ntmps67
  go_wp2_with (first | (go_at_call 86; refine hl.mono ?_; rintro e w' ⟨⟨l, rfl⟩, rfl⟩) | (go_at_call 85; refine (pdqQ_nil _ _).mono ?_; rintro e w' ⟨rfl, rfl⟩))
  go_end0
  simp

theorem sortQ_any (F : Nat → Prop) (w : World) (v : Value) (ps : List (RQ × Qu)) (h12 : ps.length ≤ 12) (h : Row F w 118 4 v ps.length (ps.flatMap encP)) (hd : (ps.map (·.1.name)).Nodup) :
    Calls Try.prog 67 #[v, .func (.func 68) #[] #[]] w fun e w' => e = .returned (.tuple #[]) ∧ Row F w' 118 4 v ps.length ((srtK (·.1.name) ps).flatMap encP) ∧ Keep (fun k => v.ownBlock = some k) w w' := by
  rcases h.1.2 with ⟨rfl, h0⟩ | ⟨g, cap, cur, rfl, _⟩
  · refine (sortQ_nil w).mono ?_
    rintro e w' ⟨rfl, rfl⟩
    have h00 : ps = [] := by
      cases ps with
      | nil => rfl
      | cons p ps => simp [encP, encQ] at h0
    subst h00
    exact ⟨rfl, h, Keep.refl _ _⟩
  · have eg : ∀ args w, (callFunc 68 args).run Try.prog w = .ok (.enter 68 args) w := enters_of Try.func68 (by kernel_rfl) rfl
    have hcl : CmpLays Try.prog 68 #[] encP 4 cfQ g 0 ps.toArray.size w := fun _ _ _ _ x y => queues1_any x y _
    have hg : g < w.heap.size := lt_of_owns h.1 g rfl
    have hcon := AnyQ.slices_SortFunc_small sortQ_laid 4 Try.isAgg118 Try.sizeOf118 encP encP_len encP_one cfQ 68 #[] g 0 cap ps.toArray w eg hcl (holds_row encP 4 encP_len (by omega) rfl h) hg (by simp; omega) len_any
    have e : ps.toArray.size = ps.length := by simp
    rw [e] at hcon
    refine Calls.mono (show Calls Try.prog 67 #[.slice (some ⟨g, 0, none⟩) ps.length cap, .func (.func 68) #[] #[]] w _ from hcon) ?_
    rintro e w' ⟨rfl, q, os, rfl⟩
    have hs := sorted_eq (fun p : RQ × Qu => p.1.name) cfQ cfQ_lt ps ps (List.Perm.refl _) hd
    have hl' : (srtK (fun p : RQ × Qu => p.1.name) ps).length = ps.length := srtK_length _ _
    have hr := row_sorted encP 4 encP_len (by omega) (m := q) (os := os) hl' rfl h
    rw [← hs] at hr
    have e2 : (insertionSort (ltOf cfQ) ps.toArray 0 ps.length).toList.toArray = insertionSort (ltOf cfQ) ps.toArray 0 ps.length := Array.toArray_toList
    rw [e2, hs] at hr
    refine ⟨rfl, hr.1, hr.2.mono (fun k _ hk => ?_)⟩
    subst hk; rfl

theorem queues_any (F : Nat → Prop) (w : World) (g : Nat) (S : Nat → Option Qu) (h : ShelfAt F w g S) (hgl : ∀ k, k < 8 → ∀ q, S k = some q → q.groups.length ≤ 12 ∧ q.items.length ≤ 2000000000000) (hnd : ((queuesUp S 8).map (·.name)).Nodup) :
    Calls Try.prog 39 #[.pointer (some ⟨g, 0, none⟩)] w fun e w' => ∃ v ps, e = .returned v ∧ Row (Made w w') w' 118 4 v ps.length (ps.flatMap encP) ∧ QsAt (Made w w') w' ps ∧ ps.map (·.2) = listQ S ∧ Below w.heap.size w w' :=
  queues_walk F w g S h hgl hnd sortQ_any
end Go.Proofs.Ytfahakmnlmlgcaa
