/-
  Contracts of the laws' slots and sameSlots.
-/
import Derived.Test.YtfahakmnlmlgcaaSameQ
import Derived.Test.YtfahakmnlmlgcaaDo
namespace Go.Proofs.Ytfahakmnlmlgcaa
open Go.RowKit Go.Lib
set_option linter.unusedVariables false
set_option linter.unusedSimpArgs false

/-- The values vs read as the lists of bytes ls, one by one. -/
def SrcsAt (w : World) (vs : List Value) (ls : List (List UInt8)) : Prop := vs.length = ls.length ∧ ∀ (i : Nat) (v : Value) (l : List UInt8), vs[i]? = some v → ls[i]? = some l → Src w 1 v l.length (bytesV l)
/-- The values vs own the lists of bytes ls. -/
def RowsAt (F : Nat → Prop) (w : World) (vs : List Value) (ls : List (List UInt8)) : Prop := vs.length = ls.length ∧ ∀ (i : Nat) (v : Value) (l : List UInt8), vs[i]? = some v → ls[i]? = some l → Row F w 5 1 v l.length (bytesV l)
/-- The value v is a list of lists of bytes. -/
def BytesAt (w : World) (v : Value) (ls : List (List UInt8)) : Prop := ∃ vs : List Value, Src w 1 v ls.length vs ∧ SrcsAt w vs ls

theorem RowsAt.keep {F M : Nat → Prop} {w w' : World} {vs : List Value} {ls : List (List UInt8)} (h : RowsAt F w vs ls) (k : Keep M w w') (hm : ∀ b, F b → ¬ M b) : RowsAt F w' vs ls := ⟨h.1, fun i v l h1 h2 => (h.2 i v l h1 h2).keep k hm⟩
theorem RowsAt.mono {F G : Nat → Prop} {w : World} {vs : List Value} {ls : List (List UInt8)} (h : RowsAt F w vs ls) (hm : ∀ b, F b → b < w.heap.size → G b) : RowsAt G w vs ls := ⟨h.1, fun i v l h1 h2 => (h.2 i v l h1 h2).mono hm⟩
theorem RowsAt.keepRow {F G : Nat → Prop} {w w' : World} {vs : List Value} {ls : List (List UInt8)} {e size n : Nat} {v : Value} {xs : List Value} (h : RowsAt F w vs ls) (r : Row G w e size v n xs) (hne : 5 ≠ e) (k : Keep (fun k => v.ownBlock = some k) w w') : RowsAt F w' vs ls :=
  ⟨h.1, fun i u l h1 h2 => by
    have r1 := h.2 i u l h1 h2
    exact ⟨k.row r1.1 (fun b hb hv => by
      rcases r1.1.2 with ⟨rfl, _⟩ | ⟨g, cap, cur, rfl, _, hh, _⟩
      · simp [Value.ownBlock] at hb
      · have : g = b := by simpa [Value.ownBlock] using hb
        subst this
        exact r.ne_block hh (fun e => hne e.symm) hv), r1.2⟩⟩
theorem RowsAt.push {F : Nat → Prop} {w : World} {vs : List Value} {ls : List (List UInt8)} (h : RowsAt F w vs ls) {v : Value} {l : List UInt8} (r : Row F w 5 1 v l.length (bytesV l)) : RowsAt F w (vs ++ [v]) (ls ++ [l]) := by
  refine ⟨by simp [h.1], fun i u m h1 h2 => ?_⟩
  by_cases hi : i < vs.length
  · rw [List.getElem?_append_left hi] at h1
    rw [List.getElem?_append_left (by rw [← h.1]; exact hi)] at h2
    exact h.2 i u m h1 h2
  · rw [List.getElem?_append_right (by omega)] at h1
    rw [List.getElem?_append_right (by rw [← h.1]; omega)] at h2
    have h0 : i - vs.length = 0 := by
      have := (List.getElem?_eq_some_iff.1 h1).1
      simp at this; omega
    rw [h0] at h1
    rw [← h.1, h0] at h2
    simp at h1 h2
    subst h1; subst h2
    exact r
theorem RowsAt.src {F : Nat → Prop} {w : World} {vs : List Value} {ls : List (List UInt8)} (h : RowsAt F w vs ls) : SrcsAt w vs ls := ⟨h.1, fun i v l h1 h2 => Src.of_row (h.2 i v l h1 h2) (bytesV_one l)⟩
theorem RowsAt.one {F : Nat → Prop} {w : World} {vs : List Value} {ls : List (List UInt8)} (h : RowsAt F w vs ls) : ∀ u ∈ vs, u.oneCell' = true := by
  intro u hu
  obtain ⟨i, hi, rfl⟩ := List.mem_iff_getElem.1 hu
  have := h.2 i vs[i] (ls[i]'(by rw [← h.1]; exact hi)) (List.getElem?_eq_getElem hi) (List.getElem?_eq_getElem _)
  obtain ⟨A, c, e⟩ := this.form
  rw [e]; rfl
theorem SrcsAt.keepAll {w w' : World} {vs : List Value} {ls : List (List UInt8)} (h : SrcsAt w vs ls) (hk : ∀ a u, w.cell? a = some u → w'.cell? a = some u) : SrcsAt w' vs ls := ⟨h.1, fun i v l h1 h2 => (h.2 i v l h1 h2).keepAll hk⟩
theorem SrcsAt.below {w w' : World} {vs : List Value} {ls : List (List UInt8)} (h : SrcsAt w vs ls) (hb : Below w.heap.size w w') : SrcsAt w' vs ls := ⟨h.1, fun i v l h1 h2 => (h.2 i v l h1 h2).below hb⟩
theorem BytesAt.below {w w' : World} {v : Value} {ls : List (List UInt8)} (h : BytesAt w v ls) (hb : Below w.heap.size w w') : BytesAt w' v ls := let ⟨vs, h1, h2⟩ := h; ⟨vs, h1.below hb, h2.below hb⟩

/-- The value v owns a list of lists of bytes. -/
def OwnB (G : Nat → Prop) (w : World) (v : Value) (ls : List (List UInt8)) : Prop := ∃ vs : List Value, Row G w 49 1 v ls.length vs ∧ RowsAt G w vs ls
theorem OwnB.keep {G M : Nat → Prop} {w w' : World} {v : Value} {ls : List (List UInt8)} (h : OwnB G w v ls) (k : Keep M w w') (hm : ∀ b, G b → ¬ M b) : OwnB G w' v ls := let ⟨vs, h1, h2⟩ := h; ⟨vs, h1.keep k hm, h2.keep k hm⟩
theorem OwnB.mono {F G : Nat → Prop} {w : World} {v : Value} {ls : List (List UInt8)} (h : OwnB F w v ls) (hm : ∀ b, F b → b < w.heap.size → G b) : OwnB G w v ls := let ⟨vs, h1, h2⟩ := h; ⟨vs, h1.mono hm, h2.mono hm⟩
theorem OwnB.src {G : Nat → Prop} {w : World} {v : Value} {ls : List (List UInt8)} (h : OwnB G w v ls) : BytesAt w v ls := let ⟨vs, h1, h2⟩ := h; ⟨vs, Src.of_row h1 h2.one, h2.src⟩
theorem OwnB.form {G : Nat → Prop} {w : World} {v : Value} {ls : List (List UInt8)} (h : OwnB G w v ls) : ∃ A c, v = .slice A ls.length c := let ⟨_, h1, _⟩ := h; h1.form

theorem Try.infoBytes : (Try.prog.info? 49).map (fun i => (i.zero, i.size, i.bytes)) = some (some (.slice none 0 0), 1, 24) := by kernel_rfl

/-- A shelf's slots as bytes. -/
def slotsUp (S : Nat → Option Qu) (k : Nat) : List (List UInt8) := (List.range k).map fun i => slotB (S i)
theorem slotsUp_succ (S : Nat → Option Qu) (k : Nat) : slotsUp S (k + 1) = slotsUp S k ++ [slotB (S k)] := by simp [slotsUp, List.range_succ]
theorem slotsUp_length (S : Nat → Option Qu) (k : Nat) : (slotsUp S k).length = k := by simp [slotsUp]
theorem slotsUp_get (S : Nat → Option Qu) (k i : Nat) (h : i < k) : (slotsUp S k)[i]? = some (slotB (S i)) := by simp [slotsUp, h]
theorem slotsUp_eq (S T : Nat → Option Qu) (k : Nat) : slotsUp S k = slotsUp T k ↔ ∀ i, i < k → slotB (S i) = slotB (T i) := by
  constructor
  · intro h i hi
    have := slotsUp_get S k i hi
    rw [h, slotsUp_get T k i hi] at this
    exact (Option.some.inj this).symm
  · intro h
    unfold slotsUp
    exact List.map_congr_left (fun i hi => h i (by simpa using hi))

theorem Row.empty (w : World) (e : TypeId) (size : Nat) : Row (Made w (w.alloc (.cells #[] e))) (w.alloc (.cells #[] e)) e size (.slice (some ⟨w.heap.size, 0, none⟩) 0 0) 0 [] :=
  ⟨⟨by simp, .inr ⟨w.heap.size, 0, #[], rfl, Nat.zero_le _, heap_alloc_new w _, by simp, by simp, by simp, by simp⟩⟩, fun k hk => by
    simp [Value.ownBlock] at hk; subst hk; exact ⟨Nat.le_refl _, by simp⟩⟩
theorem slotI_at' (S : Nat → Option Qu) (i : Nat) (hi : i < 8) : slotI S (i : Int) = slotB (S i) := by rw [slotI, if_pos (by omega)]; simp

set_option maxHeartbeats 1000000 in
theorem slots_any (F : Nat → Prop) (w : World) (g : Nat) (S : Nat → Option Qu) (h : ShelfAt F w g S) (hG : GoodS S) :
    Calls Try.prog 21 #[.pointer (some ⟨g, 0, none⟩)] w fun e w' => ∃ v, e = .returned v ∧ OwnB (Made w w') w' v (slotsUp S 8) ∧ Below w.heap.size w w' := by
  obtain ⟨i0, hi0, iz0, iz1, iz2⟩ := info_parts Try.infoBytes
  go_enter Try.func21, Try.ntmps21
  go_wp2_with fail
  go_loopw [3, 4] (fun v i wr => ∃ k : Nat, k ≤ 8 ∧ i = .int .i64 k ∧ ∃ vs, Row (Made w wr) wr 49 1 v k vs ∧ RowsAt (Made w wr) wr vs (slotsUp S k) ∧ Below w.heap.size w wr) (fun _ i _ => 8 - (intOf i).toNat)
  case atStart => exact ⟨0, by omega, rfl, [], Row.empty w _ 1, ⟨rfl, by simp⟩, (Below.refl _ _).alloc (Nat.le_refl _) _⟩
  case round =>
    obtain ⟨k, hk, rfl, vs, hr, hvs, hb⟩ := hrel
    have hsz := hb.size
    obtain ⟨A, c, rfl⟩ := hr.form
    have hsh := h.keep (Keep.of_below (M := fun _ => False) hb) (fun _ _ h => h)
    by_cases hlt : k < 8
    · have hlt' : (k : Int) < 8 := by omega
      have hsl := slot_any F wr g k S hsh hG
      rw [slotI_at' S k hlt] at hsl
      go_wp2_with fail
      refine hsl.mono ?_
      rintro e w2 ⟨v2, rfl, r2, hb2⟩
      have z2 := hb2.size
      obtain ⟨A2, c2, rfl⟩ := r2.form
      have hr2 := hr.keep (Keep.of_below (M := fun _ => False) hb2) (fun _ _ h => h)
      have hvs2 := hvs.keep (Keep.of_below (M := fun _ => False) hb2) (fun _ _ h => h)
      have hall : RowsAt (Made w w2) w2 (vs ++ [.slice A2 (slotB (S k)).length c2]) (slotsUp S k ++ [slotB (S k)]) :=
        RowsAt.push (hvs2.mono (fun b hb _ => ⟨hb.1, by have := hb.2; omega⟩)) (r2.mono (fun b hb _ => ⟨by have := hb.1; omega, hb.2⟩))
      generalize (slotB (S k)).length = n2 at hall r2 ⊢
      have HALL := Lib.hid hall
      have HB := Lib.hid (hb.trans (hb2.mono hsz))
      clear hall r2 hvs hvs2 hr hsl hsh
      go_wp2_with (at_builtin; refine wpList_app rfl _ _ 43 rfl 49 i0 (.slice none 0 0) 1 24 Try.underlying43 hi0 iz0 iz1 iz2 rfl (by decide) (hr2.alloc _) (Src.one _ _ _ rfl) rfl rfl ?c1 ?c2 ?_)
      case c1 => unfold maxLen; omega
      case c2 => omega
      intro A3 c3 w3 hr3 hg3
      have k3 : Keep (fun k' => (Value.slice A k c).ownBlock = some k') w2 w3 := ((Keep.refl _ w2).alloc _).grown hg3 (fun b hb => .inl hb)
      have z3 := k3.size
      go_wp2
      go_roundw
      case rel =>
        refine ⟨k + 1, by omega, by go_num, _, hr3.mono (fun b hb hl => ?_), ?_, HB.out.trans (k3.belowB (by omega) (fun b hb e => ?_))⟩
        · rcases hb with hb | hb
          · exact ⟨hb.1, hl⟩
          · exact ⟨by have := hb.1; simp at this; omega, hl⟩
        · rw [slotsUp_succ]
          exact (HALL.out.keepRow hr2 (by decide) k3).mono (fun b hb hl => ⟨hb.1, hl⟩)
        · have := (hr2.2 b e).1; omega
      case measure => simp [intOf]; omega
    · obtain rfl : k = 8 := by omega
      go_wp2_with fail
      go_ret
      exact ⟨_, rfl, ⟨vs, by rw [slotsUp_length]; exact hr, hvs⟩, hb⟩

theorem Src.drewN {w : World} {size n : Nat} {v : Value} {xs : List Value} (h : Src w size v n xs) (q : Nat) : Src (w.drewN q) size v n xs := h
theorem quiet_more {P : Program} {f : FuncId} {args : Array Value} {w : World} {a n : Nat} {v : Value} (h : Calls P f args (w.drewN (a + n)) fun e w' => e = .returned v ∧ ∃ m, w' = (w.drewN (a + n)).drewN m) :
    Calls P f args (w.drewN (a + n)) fun e w'' => e = .returned v ∧ ∃ m, w'' = w.drewN (a + m) :=
  h.mono fun _ _ ⟨he, m, hm⟩ => ⟨he, n + m, by rw [hm, World.drewN_drewN, Nat.add_assoc]⟩
theorem SrcsAt.drewN {w : World} {vs : List Value} {ls : List (List UInt8)} (h : SrcsAt w vs ls) (q : Nat) : SrcsAt (w.drewN q) vs ls := h
theorem Src.get1 {w : World} {A : Option Addr} {n c : Nat} {vs : List Value} (h : Src w 1 (.slice A n c) n vs) (k : Nat) (hk : k < vs.length) (hn : k < n) : ∃ b o, A = some ⟨b, o, none⟩ ∧ w.cell? ⟨b, o + k, none⟩ = some vs[k] := by
  obtain ⟨b, o, e, hc⟩ := h.cellAt k hn
  exact ⟨b, o, e, hc _ (List.getElem?_eq_getElem hk)⟩

set_option maxHeartbeats 1000000 in
theorem sameSlots_any (w : World) (ks ls : List (List UInt8)) (u v : Value) (hu : BytesAt w u ks) (hv : BytesAt w v ls) (hk : ks.length ≤ 1000000) (hl : ls.length ≤ 1000000) (hkl : ∀ x ∈ ks, x.length ≤ 4611686018427387904) (hll : ∀ x ∈ ls, x.length ≤ 4611686018427387904) :
    Calls Try.prog 23 #[u, v] w fun e w' => e = .returned (.bool (decide (ks = ls))) ∧ ∃ q, w' = w.drewN q := by
  obtain ⟨us, hu1, hu2⟩ := hu
  obtain ⟨vs, hv1, hv2⟩ := hv
  obtain ⟨A, c, rfl⟩ := hu1.form
  obtain ⟨B, d, rfl⟩ := hv1.form
  obtain ⟨n, hn⟩ : ∃ n, ks.length = n := ⟨_, rfl⟩
  obtain ⟨m, hm⟩ : ∃ m, ls.length = m := ⟨_, rfl⟩
  rw [hn] at hk hu1 ⊢
  rw [hm] at hl hv1 ⊢
  have HN := Lib.hid hn
  have HM := Lib.hid hm
  have HU := Lib.hid hu1
  have HV := Lib.hid hv1
  have HU2 := Lib.hid hu2
  have HV2 := Lib.hid hv2
  have HKL := Lib.hid hkl
  have HLL := Lib.hid hll
  clear hn hm hu1 hv1 hu2 hv2 hkl hll
  by_cases hnm : n = m
  · subst hnm
    go_enter Try.func23, Try.ntmps23
    go_wp2_with fail
    go_loopw [5] (fun i wr => ∃ k q : Nat, k ≤ n ∧ i = .int .i64 k ∧ wr = w.drewN q ∧ ks.take k = ls.take k) (fun i _ => n - (intOf i).toNat)
    case atStart => exact ⟨0, 0, Nat.zero_le _, rfl, rfl, rfl⟩
    case round =>
      obtain ⟨k, q, hk, rfl, rfl, ht⟩ := hrel
      have HT := Lib.hid ht
      clear ht
      by_cases hlt : k < n
      · have hka : k < ks.length := by rw [HN.out]; exact hlt
        have hkb : k < ls.length := by rw [HM.out]; exact hlt
        have hua : k < us.length := by rw [HU2.out.1]; exact hka
        have hvb : k < vs.length := by rw [HV2.out.1]; exact hkb
        obtain ⟨p1, o1, rfl, g1⟩ := HU.out.get1 k hua hlt
        obtain ⟨p2, o2, rfl, g2⟩ := HV.out.get1 k hvb hlt
        have hs1 := HU2.out.2 k us[k] ks[k] (List.getElem?_eq_getElem hua) (List.getElem?_eq_getElem hka)
        have hs2 := HV2.out.2 k vs[k] ls[k] (List.getElem?_eq_getElem hvb) (List.getElem?_eq_getElem hkb)
        have hb1 := HKL.out _ (List.getElem_mem hka)
        have hb2 := HLL.out _ (List.getElem_mem hkb)
        obtain ⟨x, hx⟩ : ∃ x, us[k] = x := ⟨_, rfl⟩
        obtain ⟨y, hy⟩ : ∃ y, vs[k] = y := ⟨_, rfl⟩
        rw [hx] at g1 hs1
        rw [hy] at g2 hs2
        have HS := Lib.hid (fun W (h1 : Src W 1 x ks[k].length (bytesV ks[k])) (h2 : Src W 1 y ls[k].length (bytesV ls[k])) => same_q W ks[k] ls[k] x y h1 h2 (by omega) (by omega))
        have H1 := Lib.hid hs1
        have H2 := Lib.hid hs2
        clear hx hy hs1 hs2 hb1 hb2
        have hi0 : (0 : Int) ≤ (k : Int) := by omega
        have hi1 : (k : Int) < (n : Int) := by omega
        by_cases he : ks[k] = ls[k]
        · have hde : decide (ks[k] = ls[k]) = true := decide_eq_true he
          have HS' := Lib.hid (fun W h1 h2 => by have := HS.out W h1 h2; rwa [hde] at this)
          have HE := Lib.hid he
          clear he hde
          go_wp2_with fail
          go_quiet ((go_at_call 25; first | exact quiet_more (HS'.out _ (H1.out.drewN _) (H2.out.drewN _)) | exact Calls.quiet_of (HS'.out _ (H1.out.drewN _) (H2.out.drewN _))))
          go_wp2_with fail
          first
            | (go_roundw; (case rel => exact ⟨k + 1, _, by omega, by go_num, rfl, take_eq_succ HT.out hka hkb HE.out⟩); (case measure => simp [intOf]; omega))
            | exact ⟨⟨k + 1, _, by omega, by go_num, rfl, take_eq_succ HT.out hka hkb HE.out⟩, by simp [intOf]; omega⟩
        · have hde : decide (ks[k] = ls[k]) = false := decide_eq_false he
          have HS' := Lib.hid (fun W h1 h2 => by have := HS.out W h1 h2; rwa [hde] at this)
          have HE := Lib.hid he
          clear he hde
          go_wp2_with fail
          go_quiet ((go_at_call 25; first | exact quiet_more (HS'.out _ (H1.out.drewN _) (H2.out.drewN _)) | exact Calls.quiet_of (HS'.out _ (H1.out.drewN _) (H2.out.drewN _))))
          go_wp2_with fail
          go_ret
          exact ⟨ret_bool (by rw [decide_eq_false (fun e => HE.out (by subst e; rfl))]), _, by first | rfl | (rw [World.drewN_drewN])⟩
      · obtain rfl : k = n := by omega
        go_wp2
        go_ret
        refine ⟨ret_bool ?_, _, rfl⟩
        have := HT.out
        rw [List.take_of_length_le (by rw [HN.out]; exact Nat.le_refl _), List.take_of_length_le (by rw [HM.out]; exact Nat.le_refl _)] at this
        rw [decide_eq_true this]
  · have hne : ((n : Int) != (m : Int)) = true := by simp; omega
    have HD := Lib.hid hnm
    clear hnm
    go_enter Try.func23, Try.ntmps23
    go_wp2
    go_ret
    exact ⟨ret_bool (by rw [decide_eq_false (fun e => HD.out (by rw [← HN.out, ← HM.out, e]))]), 0, rfl⟩
end Go.Proofs.Ytfahakmnlmlgcaa
