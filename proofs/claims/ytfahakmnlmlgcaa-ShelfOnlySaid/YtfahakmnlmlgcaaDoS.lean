/-
  What Do answers to any op, in plain Lean; and that it does so.
-/
import Derived.Test.YtfahakmnlmlgcaaDoAt
namespace Go.Proofs.Ytfahakmnlmlgcaa
open Go.RowKit Go.Lib
set_option linter.unusedVariables false
set_option linter.unusedSimpArgs false

structure OpOK (o : OpS) : Prop where
  kind : 1 ≤ o.kind ∧ o.kind ≤ 8
  name : o.kind ≠ 8 → 1 ≤ o.name.size ∧ o.name.size ≤ 16
  group : o.kind = 5 → 1 ≤ o.text.size ∧ o.text.size ≤ 16
  text : o.kind = 3 → o.text.size ≤ 64
  num : o.kind = 4 ∨ o.kind = 6 → 0 ≤ o.num ∧ o.num ≤ 1099511627776
  most : o.kind = 6 → 1 ≤ o.most ∧ o.most ≤ 8

theorem nameOk_iff (s : ByteArray) : nameOk s = true ↔ 1 ≤ s.size ∧ s.size ≤ 16 := by simp [nameOk]
theorem nameOk_not (s : ByteArray) : nameOk s = false ↔ ¬ (1 ≤ s.size ∧ s.size ≤ 16) := by rw [← nameOk_iff]; simp

theorem checkS_ok {o : OpS} (h : checkS o = 0) : OpOK o := by
  unfold checkS at h
  by_cases h1 : o.kind < 1 ∨ 8 < o.kind
  · rw [if_pos h1] at h; omega
  rw [if_neg h1] at h
  by_cases h2 : o.kind ≠ 8 ∧ nameOk o.name = false
  · rw [if_pos h2] at h; omega
  rw [if_neg h2, nameOk_not] at *
  by_cases h3 : (o.kind = 5 ∧ nameOk o.text = false) ∨ (o.kind = 3 ∧ 64 < o.text.size)
  · rw [if_pos h3] at h; omega
  rw [if_neg h3] at h
  rw [nameOk_not] at h3
  by_cases h4 : (o.kind = 4 ∨ o.kind = 6) ∧ (o.num < 0 ∨ 1099511627776 < o.num)
  · rw [if_pos h4] at h; omega
  rw [if_neg h4] at h
  by_cases h5 : o.kind = 6 ∧ (o.most < 1 ∨ 8 < o.most)
  · rw [if_pos h5] at h; omega
  exact ⟨by omega, fun _ => by omega, fun _ => by omega, fun _ => by omega, fun _ => by omega, fun _ => by omega⟩

theorem firstK_spec {p : Nat → Bool} {i : Nat} (h : firstK p = some i) : i < 8 ∧ p i = true ∧ ∀ j, j < i → p j = false := by
  rw [firstK, List.find?_eq_some_iff_getElem] at h
  obtain ⟨h1, j, hj, h2, h3⟩ := h
  simp at hj h2
  subst h2
  exact ⟨hj, h1, fun k hk => by have := h3 k hk; simpa using this⟩
theorem firstK_no {p : Nat → Bool} (h : firstK p = none) : ∀ j, j < 8 → p j = false := by
  intro j hj
  rw [firstK, List.find?_eq_none] at h
  have := h j (by simpa using hj)
  simpa using this
theorem isQ_some {S : Nat → Option Qu} {nm : ByteArray} {i : Nat} (h : isQ S nm i = true) : ∃ q, S i = some q ∧ q.name = nm := by
  unfold isQ at h
  cases hq : S i with
  | none => rw [hq] at h; cases h
  | some q => rw [hq] at h; exact ⟨q, rfl, (MapKept.bytes_beq _ _).1 h⟩
theorem isQ_no {S : Nat → Option Qu} {nm : ByteArray} {i : Nat} (h : isQ S nm i = false) : ∀ q, S i = some q → q.name ≠ nm := by
  intro q hq e
  rw [isQ, hq] at h
  simp only at h
  rw [(MapKept.bytes_beq _ _).2 e] at h; cases h

theorem put_same (S : Nat → Option Qu) (i : Nat) (q : Option Qu) : put S i q i = q := by simp [put]
theorem put_other (S : Nat → Option Qu) (i j : Nat) (q : Option Qu) (h : j ≠ i) : put S i q j = S j := by simp [put, h]

/-- An op on a slot that it may be on leaves a shelf. -/
theorem act_good {S : Nat → Option Qu} (hG : GoodS S) (o : OpS) (ok : OpOK o) (i : Nat) (hi : i < 8) (h1 : o.kind = 1 → S i = none ∧ ∀ j, j < 8 → ∀ r, S j = some r → r.name ≠ o.name) : GoodS (act S i o).2 := by
  unfold act
  by_cases k1 : o.kind = 1
  · rw [if_pos k1]
    obtain ⟨hf, hn⟩ := h1 k1
    refine hG.put i _ (fun q' e => ?_) (fun q' e j hj hji r hr => ?_)
    · cases e
      have := ok.name (by omega)
      exact ⟨this, by simp, by simp, by simp, by simp, by simp, by simp⟩
    · cases e; exact hn j hj r hr
  rw [if_neg k1]
  by_cases k8 : o.kind = 8
  · rw [if_pos k8]; exact hG
  rw [if_neg k8]
  cases hq : S i with
  | none => exact hG
  | some q =>
    have Q := hG.each i hi q hq
    have hfin := Q.fin
    have hlen := Q.len
    simp only
    by_cases k2 : o.kind = 2
    · rw [if_pos k2]
      exact hG.put i none (fun _ e => by cases e) (fun _ e => by cases e)
    rw [if_neg k2]
    by_cases k3 : o.kind = 3
    · rw [if_pos k3]
      split
      · exact hG
      · refine hG.set hi hq rfl ⟨Q.name, ?_, ?_, ?_, Q.glen, ?_, Q.nodup⟩
        · simp; omega
        · simp; omega
        · intro t ht
          rcases List.mem_append.1 ht with ht | ht
          · exact Q.items t ht
          · obtain rfl : t = o.text := by simpa using ht
            exact ok.text k3
        · intro p hp
          have := Q.groups p hp
          exact ⟨this.1, this.2.1, by simp; omega⟩
    rw [if_neg k3]
    by_cases k4 : o.kind = 4
    · rw [if_pos k4]
      split
      · exact hG
      · rename_i hle
        obtain ⟨d, hd⟩ : ∃ d, min o.num.toNat (q.first + q.items.length) = q.first + d := ⟨min o.num.toNat (q.first + q.items.length) - q.first, by omega⟩
        have hdl : d ≤ q.items.length := by omega
        rw [hd, Nat.add_sub_cancel_left]
        refine hG.set hi hq rfl ⟨Q.name, ?_, ?_, ?_, ?_, ?_, ?_⟩
        · simp; omega
        · simp; omega
        · exact fun t ht => Q.items t (List.mem_of_mem_drop ht)
        · simp; exact Q.glen
        · intro p hp
          obtain ⟨p', hp', rfl⟩ := List.mem_map.1 hp
          have := Q.groups p' hp'
          exact ⟨this.1, by simp only; omega, by simp only [List.length_drop]; omega⟩
        · rw [List.map_map]; exact Q.nodup
    rw [if_neg k4]
    by_cases k5 : o.kind = 5
    · rw [if_pos k5]
      have key : ∀ x, q.first ≤ x → x < q.first + q.items.length → (grp q.groups o.text = none → q.groups.length < 4) → QuOK ⟨q.name, q.first, q.items, upd q.groups o.text (x + 1)⟩ := by
        intro x hx1 hx2 hx3
        refine ⟨Q.name, hfin, hlen, Q.items, ?_, ?_, upd_nodup _ _ _ Q.nodup⟩
        · have := Q.glen
          by_cases hm : o.text ∈ q.groups.map (·.1)
          · rw [upd_length_in hm]; exact this
          · rw [upd_length_out hm]
            have : grp q.groups o.text = none := by
              cases hgp : grp q.groups o.text with
              | none => rfl
              | some y => exact absurd (List.mem_map_of_mem (f := (·.1)) (grp_mem hgp)) hm
            have := hx3 this; omega
        · intro p hp
          rcases upd_mem hp with rfl | hp
          · exact ⟨ok.group k5, by simp only; omega, by simp only; omega⟩
          · exact Q.groups p hp
      split
      · rename_i x hx
        have hm := Q.groups _ (grp_mem hx)
        simp only at hm
        split
        · exact hG
        · exact hG.set hi hq rfl (key x (by omega) (by omega) (fun e => by rw [hx] at e; cases e))
      · rename_i hx
        split
        · exact hG
        · split
          · exact hG
          · exact hG.set hi hq rfl (key q.first (by omega) (by omega) (fun _ => by omega))
    rw [if_neg k5]
    split
    · split <;> exact hG
    · exact hG

/-- An answer of Do: the result, the slot, the error, the shelf. -/
structure Ans where
  r : Res
  k : Int
  e : Int
  S : Nat → Option Qu

def doS (S : Nat → Option Qu) (o : OpS) : Ans :=
  if checkS o ≠ 0 then ⟨⟨0, 0, []⟩, 0, checkS o, S⟩
  else if o.kind = 8 then ⟨(act S 0 o).1, -1, 0, S⟩
  else match firstK (isQ S o.name) with
    | some i => if o.kind = 1 then ⟨⟨2, 0, []⟩, -1, 0, S⟩ else ⟨(act S i o).1, if slotB (S i) = slotB ((act S i o).2 i) then -1 else i, 0, (act S i o).2⟩
    | none => if o.kind = 1 then
        match firstK (isFree S) with
        | some i => ⟨(act S i o).1, if slotB (S i) = slotB ((act S i o).2 i) then -1 else i, 0, (act S i o).2⟩
        | none => ⟨⟨3, 0, []⟩, -1, 0, S⟩
      else ⟨⟨1, 0, []⟩, -1, 0, S⟩

theorem doS_good {S : Nat → Option Qu} (hG : GoodS S) (o : OpS) : GoodS (doS S o).S := by
  unfold doS
  by_cases hc : checkS o ≠ 0
  · rw [if_pos hc]; exact hG
  rw [if_neg hc]
  have ok := checkS_ok (Decidable.not_not.1 hc)
  by_cases k8 : o.kind = 8
  · rw [if_pos k8]; exact hG
  rw [if_neg k8]
  cases hf : firstK (isQ S o.name) with
  | some i =>
    simp only
    have ⟨hi, hq, _⟩ := firstK_spec hf
    by_cases k1 : o.kind = 1
    · rw [if_pos k1]; exact hG
    · rw [if_neg k1]; exact act_good hG o ok i hi (fun h => absurd h k1)
  | none =>
    simp only
    by_cases k1 : o.kind = 1
    · rw [if_pos k1]
      cases hr : firstK (isFree S) with
      | none => exact hG
      | some i =>
        have ⟨hi, hq, _⟩ := firstK_spec hr
        exact act_good hG o ok i hi (fun _ => ⟨by simpa [isFree] using hq, fun j hj r hr => isQ_no (firstK_no hf j hj) r hr⟩)
    · rw [if_neg k1]; exact hG

/-- What a call of Do leaves. -/
def DoneP (F : Nat → Prop) (w : World) (g : Nat) (a : Ans) (e : Ending) (w' : World) : Prop :=
  ∃ A c F', e = .returned (.tuple #[.agg #[.int .i64 a.r.code, .int .i64 a.r.num, .slice A a.r.items.length c], .int .i64 a.k, .int .i64 a.e]) ∧
      Row (Made w w') w' 9 1 (.slice A a.r.items.length c) a.r.items.length (textsV a.r.items) ∧ ShelfAt F' w' g a.S ∧ (∀ k, F' k → F k ∨ (Made w w' k ∧ (Value.slice A a.r.items.length c).ownBlock ≠ some k)) ∧ Keep F w w'

theorem done_same {F : Nat → Prop} {w w' : World} {g : Nat} {S : Nat → Option Qu} {e : Ending} {c : Nat} {k er : Int} {c' : Int} (h : ShelfAt F w g S) (he : e = .returned (.tuple #[.agg #[.int .i64 c', .int .i64 0, .slice none 0 0], .int .i64 k, .int .i64 er])) (hc : c' = (c : Int)) (hb : Below w.heap.size w w') :
    DoneP F w g ⟨⟨c, 0, []⟩, k, er, S⟩ e w' := by
  subst hc
  exact ⟨none, 0, F, he, Row.nil _ _ _ _, h.keep (Keep.of_below (M := fun _ => False) hb) (fun _ _ h => h), fun k hk => .inl hk, Keep.of_below hb⟩
theorem done_did {F : Nat → Prop} {w w' : World} {g : Nat} {r : Res} {S' : Nat → Option Qu} {k k' : Int} {e : Ending} (h : DoPost F w g r S' k e w') (hk : k = k') : DoneP F w g ⟨r, k', 0, S'⟩ e w' := by
  subst hk
  obtain ⟨v, F', he, hr, rest⟩ := h
  obtain ⟨A, c, rfl⟩ := hr.form
  exact ⟨A, c, F', he, hr, rest⟩

theorem slotI_at (S : Nat → Option Qu) (i : Nat) (hi : i < 8) : slotI S (i : Int) = slotB (S i) := by rw [slotI, if_pos (by omega)]; simp
theorem slotI_no (S : Nat → Option Qu) : slotI S (-1) = [] := by rw [slotI, if_neg (by omega)]

/-- A call of a function that has a body: it is entered. -/
theorem enter_at {P : Program} {f : FuncId} {fn : Func} (hf : P.funcs[f]? = some fn) (hname : (fn.name == "runtime.NumGoroutine") = false) (hb : fn.body.isSome = true) (args : Array Value) (w : World) :
    (callFunc f args).run P w = .ok (.enter f args) w := by
  obtain ⟨c, hc⟩ := Option.isSome_iff_exists.1 hb
  have h1 : fn.name ≠ "runtime.NumGoroutine" := by simpa using hname
  simp [callFunc, hf, h1, hc]
theorem Try.en_make (args : Array Value) (w : World) : (callFunc 74 args).run Try.prog w = .ok (.enter 74 args) w := enter_at Try.func74 (by kernel_rfl) (by kernel_rfl) args w
theorem Try.en_drop (args : Array Value) (w : World) : (callFunc 75 args).run Try.prog w = .ok (.enter 75 args) w := enter_at Try.func75 (by kernel_rfl) (by kernel_rfl) args w
theorem Try.en_push (args : Array Value) (w : World) : (callFunc 76 args).run Try.prog w = .ok (.enter 76 args) w := enter_at Try.func76 (by kernel_rfl) (by kernel_rfl) args w
theorem Try.en_trim (args : Array Value) (w : World) : (callFunc 77 args).run Try.prog w = .ok (.enter 77 args) w := enter_at Try.func77 (by kernel_rfl) (by kernel_rfl) args w
theorem Try.en_take (args : Array Value) (w : World) : (callFunc 78 args).run Try.prog w = .ok (.enter 78 args) w := enter_at Try.func78 (by kernel_rfl) (by kernel_rfl) args w
theorem Try.en_read (args : Array Value) (w : World) : (callFunc 79 args).run Try.prog w = .ok (.enter 79 args) w := enter_at Try.func79 (by kernel_rfl) (by kernel_rfl) args w
theorem Try.en_count (args : Array Value) (w : World) : (callFunc 80 args).run Try.prog w = .ok (.enter 80 args) w := enter_at Try.func80 (by kernel_rfl) (by kernel_rfl) args w
theorem Try.en_list (args : Array Value) (w : World) : (callFunc 81 args).run Try.prog w = .ok (.enter 81 args) w := enter_at Try.func81 (by kernel_rfl) (by kernel_rfl) args w

/-- What the array of doings has. -/
theorem Try.idx9 (k : Nat) (hk : k < 9) (v : Value) (hv : doT[k]? = some v) (W : World) : (Instr.index 96 (.agg doT) (.int .i64 (k : Int))).run Try.prog W = .ok v W := by
  have hu := run_underlying (P := Try.prog) Try.underlying96 W
  have hk' : (k : Int) < 9 := by omega
  unfold Instr.index
  simp [asIntOf, Sem.run_bind, Sem.run_pure, hu, part, Try.isAgg95 W, Try.sizeOf95 W, hk', hv]
  intro h; omega

theorem do_any (F : Nat → Prop) (w : World) (g : Nat) (S : Nat → Option Qu) (o : OpS) (h : ShelfAt F w g S) (hG : GoodS S) :
    Calls Try.prog 12 #[.pointer (some ⟨g, 0, none⟩), o.val] w (DoneP F w g (doS S o)) := by
  by_cases hc : checkS o ≠ 0
  · rw [doS, if_pos hc]
    exact (do_bad w _ o hc).mono fun e w' ⟨he, hb⟩ => done_same h he rfl hb
  have hc0 : checkS o = 0 := Decidable.not_not.1 hc
  have ok := checkS_ok hc0
  by_cases k8 : o.kind = 8
  · rw [doS, if_neg hc, if_pos k8]
    have e2 : (act S 0 o).2 = S := by unfold act; rw [if_neg (by omega), if_pos k8]
    have hd := do_list F w g S o h hG hc0 k8 81 (fun W => by rw [k8]; exact Try.idx9 8 (by omega) _ rfl W) Try.en_list S hG (act S 0 o).1
      (fun F W hF => by have := act_list F W g (-1) S o hF hG k8 0; rw [e2] at this; exact this)
    exact hd.mono fun e w' hp => done_did hp (by rw [slotI_no]; rfl)
  cases hf : firstK (isQ S o.name) with
  | some i =>
    have ⟨hi, hq, _⟩ := firstK_spec hf
    obtain ⟨q, hq, hqn⟩ := isQ_some hq
    have Q := hG.each i hi q hq
    by_cases k1 : o.kind = 1
    · rw [doS, if_neg hc, if_neg k8, hf]
      simp only
      rw [if_pos k1]
      exact (do_there F w g S o h hc0 k1 i hf).mono fun e w' ⟨he, hb⟩ => done_same h he rfl hb
    · rw [doS, if_neg hc, if_neg k8, hf]
      simp only
      rw [if_neg k1]
      have hG' : GoodS (act S i o).2 := act_good hG o ok i hi (fun h => absurd h k1)
      have go : ∀ (n : Nat) (fn : Nat), n < 9 → o.kind = (n : Int) → doT[n]? = some (.func (.func fn) #[] #[]) → (∀ args w, (callFunc fn args).run Try.prog w = .ok (.enter fn args) w) →
          (∀ F W, ShelfAt F W g S → Calls Try.prog fn #[.pointer (some ⟨g, 0, none⟩), .int .i64 i, o.val] W (Did F W g (act S i o).1 (act S i o).2)) →
          Calls Try.prog 12 #[.pointer (some ⟨g, 0, none⟩), o.val] w (DoneP F w g ⟨(act S i o).1, if slotB (S i) = slotB ((act S i o).2 i) then -1 else i, 0, (act S i o).2⟩) := by
        intro n fn hn hkn hdt hen hdo
        exact (do_at F w g S o h hG hc0 ⟨k1, k8⟩ i hi hf fn (fun W => by rw [hkn]; exact Try.idx9 n hn _ hdt W) hen _ hG' _ hdo).mono
          fun e w' hp => done_did hp (by rw [slotI_at S i hi, slotI_at _ i hi])
      have hk := ok.kind
      have hk' : o.kind = 2 ∨ o.kind = 3 ∨ o.kind = 4 ∨ o.kind = 5 ∨ o.kind = 6 ∨ o.kind = 7 := by omega
      rcases hk' with k | k | k | k | k | k
      · exact go 2 75 (by omega) k rfl Try.en_drop (fun F W hF => act_drop F W g i S o q hF hi hq k)
      · exact go 3 76 (by omega) k rfl Try.en_push (fun F W hF => act_push F W g i S o q hF hi hq Q k)
      · exact go 4 77 (by omega) k rfl Try.en_trim (fun F W hF => act_trim F W g i S o q hF hi hq Q k (ok.num (.inl k)))
      · exact go 5 78 (by omega) k rfl Try.en_take (fun F W hF => act_take F W g i S o q hF hi hq Q k)
      · exact go 6 79 (by omega) k rfl Try.en_read (fun F W hF => act_read F W g i S o q hF hi hq Q k (ok.num (.inr k)) (ok.most k))
      · exact go 7 80 (by omega) k rfl Try.en_count (fun F W hF => act_count F W g i S o q hF hi hq k)
  | none =>
    by_cases k1 : o.kind = 1
    · cases hr : firstK (isFree S) with
      | none =>
        rw [doS, if_neg hc, if_neg k8, hf]
        simp only
        rw [if_pos k1, hr]
        exact (do_full F w g S o h hc0 k1 hf hr).mono fun e w' ⟨he, hb⟩ => done_same h he rfl hb
      | some i =>
        have ⟨hi, hq, _⟩ := firstK_spec hr
        rw [doS, if_neg hc, if_neg k8, hf]
        simp only
        rw [if_pos k1, hr]
        have hG' : GoodS (act S i o).2 := act_good hG o ok i hi (fun _ => ⟨by simpa [isFree] using hq, fun j hj r hr => isQ_no (firstK_no hf j hj) r hr⟩)
        exact (do_make F w g S o h hG hc0 k1 i hi hf hr 74 (fun W => by rw [k1]; exact Try.idx9 1 (by omega) _ rfl W) Try.en_make _ hG' _ (fun F W hF => act_make F W g i S o hF hi k1)).mono
          fun e w' hp => done_did hp (by rw [slotI_at S i hi, slotI_at _ i hi])
    · rw [doS, if_neg hc, if_neg k8, hf]
      simp only
      rw [if_neg k1]
      exact (do_none F w g S o h hc0 ⟨k1, k8⟩ hf).mono fun e w' ⟨he, hb⟩ => done_same h he rfl hb
end Go.Proofs.Ytfahakmnlmlgcaa
