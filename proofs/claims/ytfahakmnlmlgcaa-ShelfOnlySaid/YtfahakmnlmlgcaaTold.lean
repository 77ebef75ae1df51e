/-
  Contracts of the laws' helpers told and took.
-/
import Derived.Test.YtfahakmnlmlgcaaKeepsP
import Derived.Test.YtfahakmnlmlgcaaSame
import Derived.Test.YtfahakmnlmlgcaaShelfJ
import Derived.Test.YtfahakmnlmlgcaaSameQ
import Derived.Test.YtfahakmnlmlgcaaSlots
import Derived.IntWalk
namespace Go.Proofs.Ytfahakmnlmlgcaa
open Go.RowKit Go.Lib
set_option linter.unusedVariables false
set_option linter.unusedSimpArgs false

theorem Src.sub {w : World} {A : Option Addr} {m c : Nat} {l : List ByteArray} (h : Src w 1 (.slice A m c) m (textsV l)) (hm : l.length = m) (lo n : Nat) (hn : lo + n ≤ m) (h0 : 0 < n) : ∃ b o, A = some ⟨b, o, none⟩ ∧ ∀ c', Src w 1 (.slice (some ⟨b, o + lo, none⟩) n c') n (textsV ((l.drop lo).take n)) := by
  obtain ⟨_, _, A', c', hv, hA⟩ := h
  injection hv with h1 _ h3
  subst h1
  rcases hA with hA | ⟨b, o, e, hc⟩
  · omega
  · refine ⟨b, o, e, fun c' => ⟨by simp; omega, ?_, _, _, rfl, .inr ⟨b, o + lo, rfl, fun j u hu => ?_⟩⟩⟩
    · intro u hu
      simp only [textsV, List.mem_map] at hu
      obtain ⟨x, _, rfl⟩ := hu
      rfl
    · have hj : j < n := by
        have := (List.getElem?_eq_some_iff.1 hu).1
        simp at this; omega
      rw [Nat.add_assoc]
      refine hc (lo + j) u ?_
      rw [textsV, List.getElem?_map, List.getElem?_take_of_lt hj, List.getElem?_drop] at hu
      rw [textsV, List.getElem?_map]
      exact hu

set_option maxRecDepth 100000 in
set_option maxHeartbeats 1000000 in
theorem told_any (w : World) (pushed items : List ByteArray) (code : Int) (num : Nat) (u v : Value) (hp : Src w 1 u pushed.length (textsV pushed)) (hv : Src w 1 v items.length (textsV items)) (hl : pushed.length ≤ 4611686018427387904)
    (hcap : ∀ A k c, u = .slice A k c → k ≤ c) (hc62 : ∀ A k c, u = .slice A k c → c ≤ 9223372036854775807) (ht : ToldP pushed items num) : Calls Try.prog 13 #[u, .agg #[.int .i64 code, .int .i64 num, v]] w fun e w' => e = .returned (.bool true) ∧ Below w.heap.size w w' := by
  obtain ⟨A, c, rfl⟩ := hp.form
  obtain ⟨B, d, rfl⟩ := hv.form
  have hmc := hcap _ _ _ rfl
  have hc63 := hc62 _ _ _ rfl
  clear hcap hc62
  by_cases hi : items = []
  · subst hi
    clear ht hv hp
    go_enter Try.func13, Try.ntmps13
    go_wp2_with fail
    go_ret
    exact ⟨rfl, (Below.refl _ _).alloc (Nat.le_refl _) _⟩
  · rcases ht with ht | ⟨h1, h2⟩
    · exact absurd ht hi
    have hpos : 0 < items.length := List.length_pos_iff.2 hi
    obtain ⟨m, hm⟩ : ∃ m, pushed.length = m := ⟨_, rfl⟩
    obtain ⟨n, hn⟩ : ∃ n, items.length = n := ⟨_, rfl⟩
    rw [hm] at hp h1 hl hmc ⊢
    rw [hn] at hv h1 h2 hpos ⊢
    obtain ⟨b, o, rfl, hsub⟩ := hp.sub hm num n h1 hpos
    rw [h2] at hsub
    have hs : ∀ (W : World) (c' : Nat), Src W 1 (.slice B n d) n (textsV items) → Src W 1 (.slice (some ⟨b, o + num, none⟩) n c') n (textsV items) →
        Calls Try.prog 33 #[.slice B n d, .slice (some ⟨b, o + num, none⟩) n c'] W fun e w' => e = .returned (.bool true) ∧ ∃ q, w' = W.drewN q := by
      intro W c' ha hb
      have := sameTexts_q W items items (.slice B n d) (.slice (some ⟨b, o + num, none⟩) n c') (by rw [hn]; exact ha) (by rw [hn]; exact hb) (by omega) (by omega)
      rwa [decide_eq_true rfl] at this
    have HS := Lib.hid hs
    have HV := Lib.hid ((hv.alloc (.cells #[.int .i64 code, .int .i64 num, .slice B n d] 28)))
    have HSub := Lib.hid (fun c' => (hsub c').alloc (.cells #[.int .i64 code, .int .i64 num, .slice B n d] 28))
    clear hs hv hsub h2 hn hm hp
    have hne : ¬ c = num := by omega
    have b1 : (num : Int) + (n : Int) ≤ (m : Int) := by omega
    have b2 : (m : Int) ≤ (c : Int) := by omega
    have b3 : (0 : Int) < (n : Int) := by omega
    have hsum : IntKind.i64.wrap ((num : Int) + (n : Int)) = (num : Int) + (n : Int) := IntWalk.i64_in _ (by omega)
    have b4 : (0 : Int) ≤ (num : Int) := by omega
    have b5 : (num : Int) ≤ (num : Int) + (n : Int) := by omega
    have b6 : (num : Int) + (n : Int) ≤ (c : Int) := by omega
    go_enter Try.func13, Try.ntmps13
    go_wp2_with fail
    go_quiet ((go_at_call 33; exact Calls.quiet_of (HS.out _ _ (HV.out.drewN _) ((HSub.out _).drewN _))))
    go_wp2_with fail
    go_ret
    exact ⟨rfl, ((Below.refl _ _).alloc (Nat.le_refl _) _).trans ((below_drewN _).mono (by simp))⟩

/-- Groups as cells; the numbers may be below 0. -/
def groupsI (l : List (ByteArray × Int)) : List Value := l.flatMap fun p => [.string p.1, .int .i64 p.2]
theorem groupsI_append (a b : List (ByteArray × Int)) : groupsI (a ++ b) = groupsI a ++ groupsI b := by simp [groupsI]
theorem groupsI_length (l : List (ByteArray × Int)) : (groupsI l).length = l.length * 2 := by
  induction l with
  | nil => rfl
  | cons p l ih => rw [show groupsI (p :: l) = [.string p.1, .int .i64 p.2] ++ groupsI l from rfl, List.length_append, ih]; simp; omega
theorem groupsI_one (l : List (ByteArray × Int)) : ∀ u ∈ groupsI l, u.oneCell' = true := by
  intro u hu
  simp only [groupsI, List.mem_flatMap] at hu
  obtain ⟨p, _, hp⟩ := hu
  simp at hp
  rcases hp with rfl | rfl <;> rfl
theorem groupsI_get : ∀ (l : List (ByteArray × Int)) (k : Nat) (h : k < l.length), (groupsI l)[k * 2]? = some (.string l[k].1) ∧ (groupsI l)[k * 2 + 1]? = some (.int .i64 l[k].2)
  | p :: l, 0, _ => ⟨rfl, rfl⟩
  | p :: l, k + 1, h => by
    have ih := groupsI_get l k (by simpa using h)
    have e : groupsI (p :: l) = [.string p.1, .int .i64 p.2] ++ groupsI l := rfl
    rw [e, List.getElem?_append_right (by simp; omega), List.getElem?_append_right (by simp; omega)]
    refine ⟨?_, ?_⟩
    · have : (k + 1) * 2 - [Value.string p.1, Value.int .i64 p.2].length = k * 2 := by simp; omega
      rw [this]; exact ih.1
    · have : (k + 1) * 2 + 1 - [Value.string p.1, Value.int .i64 p.2].length = k * 2 + 1 := by simp; omega
      rw [this]; exact ih.2

theorem Src.newAt (w : World) (cs : Array Value) (t : TypeId) (k : Nat) (hk : k = w.heap.size) (h : ∀ u ∈ cs.toList, u.oneCell' = true) : Src (w.alloc (.cells cs t)) cs.size (.slice (some ⟨k, 0, none⟩) 1 1) 1 cs.toList := by
  subst hk; exact Src.new w cs t h
theorem ret_took {A : Option Addr} {c n m : Nat} (h : n = m) : Ending.returned (.tuple #[.slice A n c, .bool true]) = .returned (.tuple #[.slice A m c, .bool true]) := by rw [h]
/-- One entry, as took leaves it. -/
def tookF (who : ByteArray) (idx : Int) (p : ByteArray × Int) : ByteArray × Int := if p.1 = who then (p.1, idx) else p

set_option maxRecDepth 100000 in
set_option maxHeartbeats 1000000 in
theorem took_any (w : World) (l : List (ByteArray × Int)) (who : ByteArray) (idx : Int) (v : Value) (hs : Src w 2 v l.length (groupsI l)) (hl : l.length ≤ 2600000000000) (hm : ∀ p ∈ l, p.1 = who → p.2 < idx) :
    Calls Try.prog 14 #[v, .string who, .int .i64 idx] w fun e w' => ∃ A c, e = .returned (.tuple #[.slice A (tookS l who idx).length c, .bool true]) ∧ Row (Made w w') w' 99 2 (.slice A (tookS l who idx).length c) (tookS l who idx).length (groupsI (tookS l who idx)) ∧ Below w.heap.size w w' := by
  obtain ⟨i0, hi0, iz0, iz1, iz2⟩ := info_parts Try.infoGroup
  obtain ⟨_, _, A, c, rfl, hA⟩ := hs
  obtain ⟨n, hn⟩ : ∃ n, l.length = n := ⟨_, rfl⟩
  rw [hn] at hA hl ⊢
  have HN := Lib.hid hn
  have hcell : ∀ k, (hk : k < n) → ∃ b o, A = some ⟨b, o, none⟩ ∧ b < w.heap.size ∧ w.cell? ⟨b, o + k * 2, none⟩ = some (.string (l[k]'(by omega)).1) ∧ w.cell? ⟨b, o + k * 2 + 1, none⟩ = some (.int .i64 (l[k]'(by omega)).2) := by
    intro k hk
    rcases hA with hA | ⟨b, o, hb, hc⟩
    · omega
    · have g := groupsI_get l k (by omega)
      have h1 := hc _ _ g.1
      have h2 := hc _ _ g.2
      exact ⟨b, o, hb, World.block_lt_of_cell? w _ h1, h1, by rw [Nat.add_assoc]; exact h2⟩
  clear hA
  have hn0 := Lib.hid hn
  go_enter Try.func14, Try.ntmps14
  go_wp2_with fail
  go_loopw [8, 9, 10] (fun v fd i wr => ∃ k : Nat, k ≤ n ∧ i = .int .i64 k ∧ fd = .bool ((l.take k).any (fun p => decide (p.1 = who))) ∧ Row (Made w wr) wr 99 2 v k (groupsI ((l.take k).map (tookF who idx))) ∧ Below w.heap.size w wr) (fun _ _ i _ => n - (intOf i).toNat)
  case atStart => exact ⟨0, Nat.zero_le _, rfl, by simp, by simpa [groupsI] using Row.empty w 99 2, (Below.refl _ _).alloc (Nat.le_refl _) _⟩
  case round =>
    obtain ⟨k, hk, rfl, rfl, hr, hb⟩ := hrel
    have hsz := hb.size
    obtain ⟨B, d, rfl⟩ := hr.form
    by_cases hlt : k < n
    · obtain ⟨b, o, rfl, hbl, hc1, hc2⟩ := hcell k hlt
      have hkl : k < l.length := by rw [HN.out]; exact hlt
      have hc1 := (hb.cell (p := ⟨b, o + k * 2, none⟩) hbl).trans hc1
      have hc2 := (hb.cell (p := ⟨b, o + k * 2 + 1, none⟩) hbl).trans hc2
      have hlt2 := hm _ (List.getElem_mem hkl)
      have htk : (l.take (k + 1)) = l.take k ++ [l[k]] := List.take_succ_eq_append_getElem hkl
      have HTK := Lib.hid htk
      clear htk
      obtain ⟨⟨nm, nx⟩, hp⟩ : ∃ p, l[k] = p := ⟨_, rfl⟩
      rw [hp] at hc1 hc2 hlt2 HTK
      simp only at hc1 hc2 hlt2
      have hne : wr.heap.size ≠ b := by omega
      by_cases he : nm = who
      · subst he
        have hb1 : (nm.toList == nm.toList) = true := by rw [tl_beq, bbeq_self]
        have hlt3 := hlt2 rfl
        clear hlt2 hp
        go_wp2_with (at_builtin; refine wpList_app rfl _ _ 34 rfl 99 i0 (.agg #[.string ⟨#[]⟩, .int .i64 0]) 2 24 Try.underlying34 hi0 iz0 iz1 iz2 rfl (by decide) ((hr.alloc _).alloc _) (Src.newAt _ #[.string nm, .int .i64 idx] _ (wr.heap.size + 1) (by simp) (by intro u hu; simp at hu; rcases hu with rfl | rfl <;> rfl)) rfl rfl ?c1 ?c2 ?_)
        case c1 => unfold maxLen; omega
        case c2 => omega
        intro A3 c3 w3 hr3 hg3
        have k3 : Keep (fun k' => (Value.slice B k d).ownBlock = some k') wr w3 := (((Keep.refl _ wr).alloc _).alloc _).grown hg3 (fun b hb => .inl hb)
        have z3 := k3.size
        go_wp2
        go_roundw
        case rel =>
          refine ⟨k + 1, by omega, by go_num, by rw [HTK.out]; simp, ?_, hb.trans (k3.belowB (by omega) (fun b hb e => ?_))⟩
          · rw [HTK.out, List.map_append, groupsI_append]
            have e : groupsI (List.map (tookF nm idx) [(nm, nx)]) = [.string nm, .int .i64 idx] := by simp [groupsI, tookF]
            rw [e, List.map_take]
            refine hr3.mono (fun b hb hl => ?_)
            rcases hb with hb | hb
            · exact ⟨hb.1, hl⟩
            · exact ⟨by have := hb.1; simp at this; omega, hl⟩
          · have := (hr.2 b e).1; omega
        case measure => simp [intOf]; omega
      · have hb1 : (nm.toList == who.toList) = false := by rw [tl_beq, bbeq_ne he]
        have HE := Lib.hid he
        clear hlt2 hp he
        go_wp2_with (at_builtin; refine wpList_app rfl _ _ 34 rfl 99 i0 (.agg #[.string ⟨#[]⟩, .int .i64 0]) 2 24 Try.underlying34 hi0 iz0 iz1 iz2 rfl (by decide) ((hr.alloc _).alloc _) (Src.newAt _ #[.string nm, .int .i64 nx] _ (wr.heap.size + 1) (by simp) (by intro u hu; simp at hu; rcases hu with rfl | rfl <;> rfl)) rfl rfl ?c3 ?c4 ?_)
        case c3 => unfold maxLen; omega
        case c4 => omega
        intro A3 c3 w3 hr3 hg3
        have k3 : Keep (fun k' => (Value.slice B k d).ownBlock = some k') wr w3 := (((Keep.refl _ wr).alloc _).alloc _).grown hg3 (fun b hb => .inl hb)
        have z3 := k3.size
        go_wp2
        go_roundw
        case rel =>
          refine ⟨k + 1, by omega, by go_num, by rw [HTK.out]; simp [HE.out], ?_, hb.trans (k3.belowB (by omega) (fun b hb e => ?_))⟩
          · rw [HTK.out, List.map_append, groupsI_append]
            have e : groupsI (List.map (tookF who idx) [(nm, nx)]) = [.string nm, .int .i64 nx] := by simp [groupsI, tookF, HE.out]
            rw [e, List.map_take]
            refine hr3.mono (fun b hb hl => ?_)
            rcases hb with hb | hb
            · exact ⟨hb.1, hl⟩
            · exact ⟨by have := hb.1; simp at this; omega, hl⟩
          · have := (hr.2 b e).1; omega
        case measure => simp [intOf]; omega
    · obtain rfl : k = n := by omega
      have htk : l.take k = l := List.take_of_length_le (by rw [HN.out]; exact Nat.le_refl _)
      rw [htk] at hr ⊢
      have hmap : l.map (tookF who idx) = l.map (fun p => if p.1 = who then (p.1, idx) else p) := rfl
      cases hany : l.any (fun p => decide (p.1 = who)) with
      | true =>
        have hL : (tookS l who idx) = l.map (tookF who idx) := by rw [tookS, hany, hmap]; simp
        have hll : (tookS l who idx).length = k := by rw [hL, List.length_map]; exact HN.out
        have HL := Lib.hid hL
        have HLL := Lib.hid hll
        clear htk hmap hL hll
        go_wp2_with fail
        go_ret2
        exact ⟨_, _, ret_took HLL.out.symm, by rw [HLL.out, HL.out]; exact hr, hb⟩
      | false =>
        have hL : (tookS l who idx) = l.map (tookF who idx) ++ [(who, idx)] := by rw [tookS, hany, hmap]; simp
        have hll : (tookS l who idx).length = k + 1 := by rw [hL, List.length_append, List.length_map, HN.out]; rfl
        have HL := Lib.hid hL
        have HLL := Lib.hid hll
        clear htk hmap hL hll
        go_wp2_with (at_builtin; refine wpList_app rfl _ _ 34 rfl 99 i0 (.agg #[.string ⟨#[]⟩, .int .i64 0]) 2 24 Try.underlying34 hi0 iz0 iz1 iz2 rfl (by decide) (hr.alloc _) (Src.new _ #[.string who, .int .i64 idx] _ (by intro u hu; simp at hu; rcases hu with rfl | rfl <;> rfl)) rfl rfl ?c5 ?c6 ?_)
        case c5 => unfold maxLen; omega
        case c6 => omega
        intro A3 c3 w3 hr3 hg3
        have k3 : Keep (fun k' => (Value.slice B k d).ownBlock = some k') wr w3 := ((Keep.refl _ wr).alloc _).grown hg3 (fun b hb => .inl hb)
        have z3 := k3.size
        go_wp2_with fail
        go_ret2
        refine ⟨_, _, ret_took HLL.out.symm, by rw [HLL.out, HL.out, groupsI_append]; exact hr3.mono (fun b hb hl => by
          rcases hb with hb | hb
          · exact ⟨hb.1, hl⟩
          · exact ⟨by have := hb.1; simp at this; omega, hl⟩), hb.trans (k3.belowB (by omega) (fun b hb e => ?_))⟩
        have := (hr.2 b e).1; omega
end Go.Proofs.Ytfahakmnlmlgcaa
