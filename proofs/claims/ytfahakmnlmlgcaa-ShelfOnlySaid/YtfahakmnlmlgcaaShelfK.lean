/-
  Contracts: the sort of groups; a slot's groups.
-/
import Derived.Test.YtfahakmnlmlgcaaShelfJ
import Derived.Test.YtfahakmnlmlgcaaSort
import Derived.Test.YtfahakmnlmlgcaaLay
namespace Go.Proofs.Ytfahakmnlmlgcaa
open Go.RowKit Go.Lib Go.Sort Go.Shelf Go.Proofs
set_option linter.unusedVariables false
set_option linter.unusedSimpArgs false

theorem cmpS_lt (a b : ByteArray) : decide (cmpS a b < 0) = ltB a b := by
  unfold cmpS ltB
  split
  · simp [*]
  · split <;> simp [*]

def encG (x : ByteArray × Nat) : List Value := [.string x.1, .int .i64 x.2]
theorem encG_len (x : ByteArray × Nat) : (encG x).length = 2 := rfl
theorem encG_one (x : ByteArray × Nat) : ∀ v ∈ encG x, v.oneCell' = true := by
  intro v hv; simp [encG] at hv; rcases hv with rfl | rfl <;> rfl
theorem groupsV_enc (l : List (ByteArray × Nat)) : groupsV l = l.flatMap encG := rfl
def cfG (x y : ByteArray × Nat) : Int := cmpS x.1 y.1
theorem cfG_lt (x y : ByteArray × Nat) : ltOf cfG x y = ltB x.1 y.1 := cmpS_lt x.1 y.1

theorem len_any (n : Nat) (W : World) (h : n ≤ 12) : Calls Try.prog 86 #[.int .u64 n] W fun e w' => (∃ l : Int, e = .returned (.int .i64 l)) ∧ w' = W :=
  (Any.bits_Len bitsLen_laid n W (by omega) (by omega)).mono fun _ _ ⟨he, hw⟩ => ⟨⟨_, he⟩, hw⟩

theorem groups1_any (x y : ByteArray × Nat) (W : World) : Calls Try.prog 84 #[.agg #[.string x.1, .int .i64 x.2], .agg #[.string y.1, .int .i64 y.2]] W fun e w' => e = .returned (.int .i64 (cfG x y)) ∧ ∃ q os', w' = grow (W.drewN q) os' := by
  obtain ⟨a, b⟩ := x
  obtain ⟨c, d⟩ := y
  simp only [cfG]
  have hcon := fun W' => cmp_any a c W'
  generalize cmpS a c = r at hcon ⊢
  go_enter Try.func84, Try.ntmps84
  go_wp2_with (go_at_call 69; refine (hcon _).mono ?_; rintro e w' ⟨rfl, rfl⟩)
  go_ret
  exact ⟨rfl, 0, _, by rw [alloc_eq_grow, alloc_eq_grow, grow_grow]; rfl⟩

theorem sortG_any (F : Nat → Prop) (w : World) (g cap n : Nat) (l m : List (ByteArray × Nat)) (hn : n = l.length) (h12 : n ≤ 12) (h : Row F w 99 2 (.slice (some ⟨g, 0, none⟩) n cap) n (groupsV l)) (hp : l.Perm m) (hd : (m.map (·.1)).Nodup) :
    Calls Try.prog 83 #[.slice (some ⟨g, 0, none⟩) n cap, .func (.func 84) #[] #[]] w fun e w' => e = .returned (.tuple #[]) ∧ Row F w' 99 2 (.slice (some ⟨g, 0, none⟩) n cap) n (groupsV (srtK (·.1) m)) ∧ Keep (fun k => k = g) w w' := by
  have eg : ∀ args w, (callFunc 84 args).run Try.prog w = .ok (.enter 84 args) w := enters_of Try.func84 (by kernel_rfl) rfl
  have hcl : CmpLays Try.prog 84 #[] encG 2 cfG g 0 l.toArray.size w := fun _ _ _ _ x y => groups1_any x y _
  have hg : g < w.heap.size := lt_of_owns h.1 g rfl
  have hcon := AnyQ.slices_SortFunc_small sortG_laid 2 Try.isAgg99 Try.sizeOf99 encG encG_len encG_one cfG 84 #[] g 0 cap l.toArray w eg hcl (holds_row encG 2 encG_len (by omega) hn h) hg (by simp; omega) len_any
  have e : l.toArray.size = n := by simp [hn]
  rw [e] at hcon
  refine Calls.mono (show Calls Try.prog 83 #[.slice (some ⟨g, 0, none⟩) n cap, .func (.func 84) #[] #[]] w _ from hcon) ?_
  rintro e w' ⟨rfl, q, os, rfl⟩
  have hs := sorted_eq (·.1) cfG cfG_lt l m hp hd
  have hl' : (srtK (·.1) m).length = l.length := by rw [srtK_length]; exact hp.length_eq.symm
  have hr := row_sorted encG 2 encG_len (by omega) (m := q) (os := os) hl' hn h
  rw [← hs] at hr
  have e2 : (insertionSort (ltOf cfG) l.toArray 0 l.length).toList.toArray = insertionSort (ltOf cfG) l.toArray 0 n := by rw [hn, Array.toArray_toList]
  rw [e2, hs] at hr
  exact ⟨rfl, hr.1, hr.2⟩

theorem insG_nil (w : World) : Calls Try.prog 105 #[.slice none 0 0, .int .i64 0, .int .i64 0, .func (.func 84) #[] #[]] w fun e w' => e = .returned (.tuple #[]) ∧ w = w' := by
  go_enter Try.func105, Try.ntmps105
  go_wp2_with fail
  refine wp_loop_rounds 1 ?_
  rw [rounds_succ]
  go_wp2
  go_end0
  simp
theorem pdqG_nil (w : World) (n : Int) : Calls Try.prog 91 #[.slice none 0 0, .int .i64 0, .int .i64 0, .int .i64 n, .func (.func 84) #[] #[]] w fun e w' => e = .returned (.tuple #[]) ∧ w = w' := by
  go_enter Try.func91, Try.ntmps91
  go_wp2_with fail
  refine wp_loop_rounds 1 ?_
  rw [rounds_succ]
  go_wp2_with (go_at_call 105; refine (insG_nil _).mono ?_; rintro e w' ⟨rfl, rfl⟩)
  refine bodyPost_ret (results_none rfl _ _ _) rfl ⟨rfl, rfl⟩
theorem sortG_nil (w : World) : Calls Try.prog 83 #[.slice none 0 0, .func (.func 84) #[] #[]] w fun e w' => e = .returned (.tuple #[]) ∧ w = w' := by
  have hl := len_any 0 w (by omega)
  go_enter Try.func83, Try.ntmps83
  go_wp2_with (first | (go_at_call 86; refine hl.mono ?_; rintro e w' ⟨⟨l, rfl⟩, rfl⟩) | (go_at_call 91; refine (pdqG_nil _ _).mono ?_; rintro e w' ⟨rfl, rfl⟩))
  go_end0
  simp

theorem IterAt.ne_row {α β : Type} {kf : α → Value} {vf : β → Value} {F : Nat → Prop} {w : World} {it b e size n : Nat} {m : List (α × β)} {done : List Nat} {v : Value} {xs : List Value} (h : IterAt kf vf w it b m done) (r : Row F w e size v n xs) : v.ownBlock ≠ some it := by
  obtain ⟨s, c, _, _, _, _, _, h6, _⟩ := h
  rcases r.1.2 with ⟨rfl, _⟩ | ⟨g', cap, cur, rfl, _, hh, _⟩
  · simp [Value.ownBlock]
  · intro he
    simp only [Value.ownBlock, Option.some.injEq] at he
    subst he
    rw [hh] at h6; cases h6

set_option maxRecDepth 100000 in
theorem sgroups_any (w : World) (u : Bool) (nm : ByteArray) (f n c b : Nat) (A : Option Addr) (m : List (ByteArray × Nat)) (hm : MapAt kS vI w b m) (h12 : m.length ≤ 12) :
    Calls Try.prog 66 #[.agg #[.bool u, .string nm, .int .i64 f, .slice A n c, .map (some b)]] w fun e w' => ∃ v, e = .returned v ∧ Row (Made w w') w' 99 2 v m.length (groupsV (srtK (·.1) m)) ∧ Below w.heap.size w w' := by
  obtain ⟨i0, hi0, iz0, iz1, iz2⟩ := info_parts Try.infoGroup
  have hb := hm.lt
  have hnd := Lib.hid hm.nodup
  have hm1 : ∀ o, MapAt kS vI (w.alloc o) b m := fun o => hm.same (hp_alloc_lt hb _)
  go_enter Try.func66, Try.ntmps66
  go_wp2_with (at_range; refine wpList_mrange (by rfl) _ rfl Try.underlying84 (hm1 _) rfl ?_; intro ob hit)
  have k4 : Keep (fun _ => False) w ((w.alloc (.cells #[.bool u, .string nm, .int .i64 f, .slice A n c, .map (some b)] 86)).alloc ob) := ((Keep.refl _ _).alloc _).alloc _
  have hil := hit.lt
  have hitw : w.heap.size ≤ (w.alloc (.cells #[.bool u, .string nm, .int .i64 f, .slice A n c, .map (some b)] 86)).heap.size := by simp
  generalize (w.alloc (.cells #[.bool u, .string nm, .int .i64 f, .slice A n c, .map (some b)] 86)).heap.size = it at hit hil hitw ⊢
  generalize ((w.alloc (.cells #[.bool u, .string nm, .int .i64 f, .slice A n c, .map (some b)] 86)).alloc ob) = w4 at hit hil k4 ⊢
  go_frame
  go_loopw [3] (fun v wr => ∃ done, IterAt kS vI wr it b m done ∧ Row (Made w wr) wr 99 2 v done.length (groupsV (pick m done)) ∧ Keep (fun _ => False) w wr) (fun _ wr => m.length - visited wr it)
  case atStart => exact ⟨[], hit, Row.nil _ _ _ _, k4⟩
  case round =>
    obtain ⟨done, hI, hr, hk⟩ := hrel
    have hle := hI.done_le
    have hvis := hI.visited
    obtain ⟨A1, c1, rfl⟩ := hr.form
    have hri := hI.ne_row hr
    have hsz := hk.size
    have hilt := hI.lt
    go_wp2_with (at_next; refine wpList_mnext (by rfl) _ rfl hI rfl ?_ ?_)
    · intro hall
      have hnd2 := hI.nodup
      have hpp := pick_perm m done hnd2.1 hnd2.2 hall
      have hll : done.length = m.length := by rw [← pick_length m done]; exact hpp.length_eq
      have hpl := pick_length m done
      rw [hll] at hr hpl hri ⊢
      rcases hr.1.2 with ⟨hv, h0⟩ | ⟨g, cap, cur, hv, _⟩
      · simp only [Value.slice.injEq] at hv
        obtain ⟨rfl, h00, rfl⟩ := hv
        obtain rfl : m = [] := List.eq_nil_of_length_eq_zero h00
        go_wp2_with (go_at_call 83; refine (sortG_nil _).mono ?_; rintro e w' ⟨rfl, rfl⟩)
        go_ret
        exact ⟨_, rfl, Row.nil _ _ _ _, hk.below (fun _ _ h => h)⟩
      · simp only [Value.slice.injEq] at hv
        obtain ⟨rfl, _, rfl⟩ := hv
        have hs := sortG_any (Made w wr) wr g c1 m.length (pick m done) m hpl.symm h12 hr hpp hnd.out
        have hgn := hr.2 g rfl
        go_wp2_with (go_at_call 83; refine hs.mono ?_; rintro e w' ⟨rfl, hr5, hk5⟩)
        go_ret
        refine ⟨_, rfl, hr5.mono (fun k hk hl => ⟨hk.1, hl⟩), (hk.trans hk5 (fun k hk e => ?_)).below (fun _ _ h => h)⟩
        have := hgn.1
        omega
    · intro i2 hi2 hni w5 hI5 hk5 hz50 hent
      have hz5 := Lib.hid hz50
      clear hz50
      obtain ⟨⟨p1, p2⟩, hp⟩ : ∃ p, m[i2] = p := ⟨_, rfl⟩
      rw [hp] at hent ⊢
      have hpa := pick_add m done i2 hi2
      rw [hp] at hpa
      have hr5 : Row (Made w wr) w5 99 2 (.slice A1 done.length c1) done.length (groupsV (pick m done)) := ⟨hk5.row hr.1 (fun k hk e => hri (by rw [hk, e])), hr.2⟩
      have hd5 := hI5.done_le
      have hv5 := hI5.visited
      have hl5 : (done ++ [i2]).length = done.length + 1 := by simp
      rw [hl5] at hd5 hv5
      go_wp2_with (at_builtin; refine wpList_app rfl _ _ 34 rfl 99 i0 (.agg #[.string ⟨#[]⟩, .int .i64 0]) 2 24 Try.underlying34 hi0 iz0 iz1 iz2 rfl (by decide) (hr5.alloc _) (Src.new _ #[.string p1, .int .i64 p2] _ (by intro u hu; simp at hu; rcases hu with rfl | rfl <;> rfl)) rfl rfl ?c1 ?c2 ?_)
      case c1 => unfold maxLen; omega
      case c2 => omega
      intro A2 c2 w6 hr6 hg6
      have hk6 : Keep (fun k => (Value.slice A1 done.length c1).ownBlock = some k) w5 w6 := ((Keep.refl _ w5).alloc _).grown hg6 (fun k hk => .inl hk)
      have hI6 := hI5.keep hk6 (hI5.map.ne_row hr5) (hI5.ne_row hr5)
      have hv6 := hI6.visited
      have hsz5 := hk5.size
      have hsz6 := hk6.size
      rw [hl5] at hv6
      go_wp2
      go_roundw
      case rel =>
        refine ⟨done ++ [i2], hI6, ?_, (hk.trans hk5 (fun k hk h => by omega)).trans hk6 (fun k hk h => by have := (hr.2 k h).1; omega)⟩
        rw [hpa, groupsV_append, hl5]
        refine hr6.mono (fun k hk hl => ?_)
        rcases hk with hk | hk
        · exact ⟨hk.1, hl⟩
        · exact ⟨by have := hk.1; simp at this; omega, hl⟩
      case measure => rw [hv6]; omega
end Go.Proofs.Ytfahakmnlmlgcaa
