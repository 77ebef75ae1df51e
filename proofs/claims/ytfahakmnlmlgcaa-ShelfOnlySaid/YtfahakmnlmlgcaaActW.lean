/-
  What the shelf's methods do, each as 'act' says.
-/
import Derived.Test.YtfahakmnlmlgcaaAct
import Derived.Test.YtfahakmnlmlgcaaShelfD
import Derived.Test.YtfahakmnlmlgcaaShelfF
import Derived.Test.YtfahakmnlmlgcaaShelfH
namespace Go.Proofs.Ytfahakmnlmlgcaa
open Go.RowKit Go.Lib
set_option linter.unusedVariables false
set_option linter.unusedSimpArgs false

/-- What a call that does an op leaves: its result; the shelf. -/
def Did (F : Nat → Prop) (w : World) (g : Nat) (r : Res) (S' : Nat → Option Qu) (e : Ending) (w' : World) : Prop :=
  ∃ v F', e = .returned (.agg #[.int .i64 r.code, .int .i64 r.num, v]) ∧ Row (Made w w') w' 9 1 v r.items.length (textsV r.items) ∧ ShelfAt F' w' g S' ∧ (∀ k, F' k → F k ∨ (Made w w' k ∧ v.ownBlock ≠ some k)) ∧ Keep F w w'

theorem did_grow {F : Nat → Prop} {w w' : World} {g : Nat} {S' : Nat → Option Qu} {e : Ending} {n : Nat} {m : Int} (he : e = .returned (.agg #[.int .i64 0, .int .i64 m, .slice none 0 0])) (hm : m = (n : Int)) (h : ShelfAt (Grow F w w') w' g S') (k : Keep F w w') :
    Did F w g ⟨0, n, []⟩ S' e w' := by
  subst hm
  exact ⟨.slice none 0 0, Grow F w w', he, Row.nil _ _ _ _, h, fun k hk => hk.imp id (fun h => ⟨h, by simp [Value.ownBlock]⟩), k⟩
theorem did_same {F : Nat → Prop} {w w' : World} {g : Nat} {S : Nat → Option Qu} {e : Ending} {c n : Nat} {c' m : Int} (he : e = .returned (.agg #[.int .i64 c', .int .i64 m, .slice none 0 0])) (hc : c' = (c : Int)) (hm : m = (n : Int)) (h : ShelfAt F w g S) (hb : Below w.heap.size w w') :
    Did F w g ⟨c, n, []⟩ S e w' := by
  subst hm; subst hc
  exact ⟨.slice none 0 0, F, he, Row.nil _ _ _ _, h.keep (Keep.of_below (M := fun _ => False) hb) (fun _ _ h => h), fun k hk => .inl hk, Keep.of_below hb⟩

theorem act_make (F : Nat → Prop) (w : World) (g i : Nat) (S : Nat → Option Qu) (o : OpS) (h : ShelfAt F w g S) (hi : i < 8) (hk : o.kind = 1) :
    Calls Try.prog 74 #[.pointer (some ⟨g, 0, none⟩), .int .i64 i, o.val] w (Did F w g (act S i o).1 (act S i o).2) := by
  refine (make_any F w g i S o h hi).mono ?_
  rintro e w' ⟨he, hs, hkp⟩
  simp only [act, hk, if_true]
  exact did_grow he rfl hs hkp

theorem act_list (F : Nat → Prop) (w : World) (g : Nat) (i : Int) (S : Nat → Option Qu) (o : OpS) (h : ShelfAt F w g S) (hg : GoodS S) (hk : o.kind = 8) (j : Nat) :
    Calls Try.prog 81 #[.pointer (some ⟨g, 0, none⟩), .int .i64 i, o.val] w (Did F w g (act S j o).1 (act S j o).2) := by
  refine (list_any F w g i S o h hg.glen hg.nodup).mono ?_
  rintro e w' ⟨v, he, hr, hb⟩
  simp only [act, hk, if_true]
  exact ⟨v, F, he, by simpa using hr, h.keep (Keep.of_below (M := fun _ => False) hb) (fun _ _ h => h), fun k hk => .inl hk, Keep.of_below hb⟩

theorem act_drop (F : Nat → Prop) (w : World) (g i : Nat) (S : Nat → Option Qu) (o : OpS) (q : Qu) (h : ShelfAt F w g S) (hi : i < 8) (hq : S i = some q) (hk : o.kind = 2) :
    Calls Try.prog 75 #[.pointer (some ⟨g, 0, none⟩), .int .i64 i, o.val] w (Did F w g (act S i o).1 (act S i o).2) := by
  refine (drop_any F w g i S o h hi).mono ?_
  rintro e w' ⟨he, hs, hkp⟩
  simp only [act, hk, hq]
  exact did_grow he rfl hs hkp

theorem act_push (F : Nat → Prop) (w : World) (g i : Nat) (S : Nat → Option Qu) (o : OpS) (q : Qu) (h : ShelfAt F w g S) (hi : i < 8) (hq : S i = some q) (ok : QuOK q) (hk : o.kind = 3) :
    Calls Try.prog 76 #[.pointer (some ⟨g, 0, none⟩), .int .i64 i, o.val] w (Did F w g (act S i o).1 (act S i o).2) := by
  have hb := ok.fin
  by_cases hf : 32 ≤ q.items.length ∨ 1099511627776 ≤ q.first + q.items.length
  · refine (push_full F w g i S o q h hi hq hb hf).mono ?_
    rintro e w' ⟨he, hbl⟩
    simp only [act, hk, hq, hf]
    exact did_same he rfl rfl h hbl
  · refine (push_ok F w g i S o q h hi hq (by omega) (by omega)).mono ?_
    rintro e w' ⟨he, hs, hkp⟩
    simp only [act, hk, hq, hf]
    exact did_grow he rfl hs hkp

theorem act_trim (F : Nat → Prop) (w : World) (g i : Nat) (S : Nat → Option Qu) (o : OpS) (q : Qu) (h : ShelfAt F w g S) (hi : i < 8) (hq : S i = some q) (ok : QuOK q) (hk : o.kind = 4) (hn : 0 ≤ o.num ∧ o.num ≤ 1099511627776) :
    Calls Try.prog 77 #[.pointer (some ⟨g, 0, none⟩), .int .i64 i, o.val] w (Did F w g (act S i o).1 (act S i o).2) := by
  have hb := ok.fin
  obtain ⟨kind, nm, tx, num, most⟩ := o
  obtain ⟨n, rfl⟩ : ∃ n : Nat, num = n := ⟨num.toNat, by have := hn.1; simp only at this; omega⟩
  simp only at hk hn
  by_cases hf : min n (q.first + q.items.length) ≤ q.first
  · refine (trim_none F w g i S nm tx kind most n q h hi hq hb (by omega) hf).mono ?_
    rintro e w' ⟨he, hbl⟩
    simp only [act, hk, hq, Int.toNat_natCast, hf]
    exact did_same he rfl rfl h hbl
  · obtain ⟨d, hd⟩ : ∃ d, min n (q.first + q.items.length) = q.first + d := ⟨min n (q.first + q.items.length) - q.first, by omega⟩
    refine (trim_ok F w g i S nm tx kind most n d q h hi hq hb (by omega) hd (by omega)).mono ?_
    rintro e w' ⟨he, hs, hkp⟩
    have e1 : q.first + d - q.first = d := by omega
    have hf' : ¬ q.first + d ≤ q.first := by omega
    simp only [act, hk, hq, Int.toNat_natCast, hd, hf', e1]
    exact did_grow he rfl hs hkp

theorem act_take (F : Nat → Prop) (w : World) (g i : Nat) (S : Nat → Option Qu) (o : OpS) (q : Qu) (h : ShelfAt F w g S) (hi : i < 8) (hq : S i = some q) (ok : QuOK q) (hk : o.kind = 5) :
    Calls Try.prog 78 #[.pointer (some ⟨g, 0, none⟩), .int .i64 i, o.val] w (Did F w g (act S i o).1 (act S i o).2) := by
  have hb := ok.fin
  cases hx : grp q.groups o.text with
  | some x =>
    have hm := ok.groups _ (grp_mem hx)
    simp only at hm
    by_cases he : x = q.first + q.items.length
    · refine (take_empty F w g i S o q x h hi hq hb hx he).mono ?_
      rintro e w' ⟨h1, hbl⟩
      simp only [act, hk, hq, hx, he]
      exact did_same h1 rfl rfl h hbl
    · obtain ⟨j, rfl⟩ : ∃ j, x = q.first + j := ⟨x - q.first, by omega⟩
      have hj : j < q.items.length := by omega
      have e1 : q.first + j - q.first = j := by omega
      refine (take_ok1 F w g i S o q j h hi hq hb hx q.items[j] (by simp [hj])).mono ?_
      rintro e w' ⟨v, h1, hr, hs, hkp⟩
      simp only [act, hk, hq, hx, he, e1]
      refine ⟨v, F, h1, ?_, hs, fun k hk => .inl hk, hkp⟩
      have : q.items.getD j ByteArray.empty = q.items[j] := by simp [hj]
      rw [this]; exact hr
  | none =>
    by_cases h4 : 4 ≤ q.groups.length
    · refine (take_full F w g i S o q h hi hq hx h4).mono ?_
      rintro e w' ⟨h1, hbl⟩
      simp only [act, hk, hq, hx, h4]
      exact did_same h1 rfl rfl h hbl
    · by_cases h0 : q.items.length = 0
      · refine (take_empty0 F w g i S o q h hi hq hb hx (by omega) h0).mono ?_
        rintro e w' ⟨h1, hbl⟩
        simp only [act, hk, hq, hx, h4, h0]
        exact did_same h1 rfl rfl h hbl
      · have hj : 0 < q.items.length := by omega
        refine (take_ok0 F w g i S o q h hi hq hb hx (by omega) q.items[0] (by simp [hj])).mono ?_
        rintro e w' ⟨v, h1, hr, hs, hkp⟩
        simp only [act, hk, hq, hx, h4, h0]
        refine ⟨v, F, h1, ?_, hs, fun k hk => .inl hk, hkp⟩
        have : q.items.getD 0 ByteArray.empty = q.items[0] := by simp [hj]
        rw [this]; exact hr

theorem act_read (F : Nat → Prop) (w : World) (g i : Nat) (S : Nat → Option Qu) (o : OpS) (q : Qu) (h : ShelfAt F w g S) (hi : i < 8) (hq : S i = some q) (ok : QuOK q) (hk : o.kind = 6) (hn : 0 ≤ o.num ∧ o.num ≤ 1099511627776) (hm : 1 ≤ o.most ∧ o.most ≤ 8) :
    Calls Try.prog 79 #[.pointer (some ⟨g, 0, none⟩), .int .i64 i, o.val] w (Did F w g (act S i o).1 (act S i o).2) := by
  have hb := ok.fin
  obtain ⟨kind, nm, tx, num, most⟩ := o
  obtain ⟨n, rfl⟩ : ∃ n : Nat, num = n := ⟨num.toNat, by have := hn.1; simp only at this; omega⟩
  obtain ⟨m, rfl⟩ : ∃ m : Nat, most = m := ⟨most.toNat, by have := hm.1; simp only at this; omega⟩
  simp only at hk hn hm
  by_cases hf : q.first + q.items.length ≤ max n q.first
  · refine (read_any F w g i S nm tx kind n m q h hi hq hb (by omega) (by omega) hf).mono ?_
    rintro e w' ⟨he, hbl⟩
    simp only [act, hk, hq, Int.toNat_natCast, hf]
    exact did_same he rfl rfl h hbl
  · refine (read_ok F w g i S nm tx kind n m _ q h hi hq hb (by omega) (by omega) rfl (by omega)).mono ?_
    rintro e w' ⟨v, he, hr, hbl⟩
    simp only [act, hk, hq, Int.toNat_natCast, hf]
    exact ⟨v, F, he, hr, h.keep (Keep.of_below (M := fun _ => False) hbl) (fun _ _ h => h), fun k hk => .inl hk, Keep.of_below hbl⟩

theorem act_count (F : Nat → Prop) (w : World) (g i : Nat) (S : Nat → Option Qu) (o : OpS) (q : Qu) (h : ShelfAt F w g S) (hi : i < 8) (hq : S i = some q) (hk : o.kind = 7) :
    Calls Try.prog 80 #[.pointer (some ⟨g, 0, none⟩), .int .i64 i, o.val] w (Did F w g (act S i o).1 (act S i o).2) := by
  refine (count_any F w g i S o q h hi hq).mono ?_
  rintro e w' ⟨he, hbl⟩
  simp only [act, hk, hq]
  exact did_same he rfl rfl h hbl
end Go.Proofs.Ytfahakmnlmlgcaa
