/-
  The walk of the statement ShelfKeeps.
-/
import Derived.Test.YtfahakmnlmlgcaaKeepsM
import Derived.Test.YtfahakmnlmlgcaaDoAt
namespace Go.Proofs.Ytfahakmnlmlgcaa
open Go.RowKit Go.Lib
set_option linter.unusedVariables false
set_option linter.unusedSimpArgs false

theorem bQ_list : bQ.toList = [113] := by rw [ByteArray.toList_eq]; rfl
theorem Row.emptyAt (w : World) (e : TypeId) (size k : Nat) (hk : k = w.heap.size) : Row (fun b => b = k) (w.alloc (.cells #[] e)) e size (.slice (some ⟨k, 0, none⟩) 0 0) 0 [] := by
  subst hk
  exact ⟨(Row.empty w e size).1, fun b hb => by simp [Value.ownBlock] at hb; exact hb.symm⟩

set_option maxRecDepth 100000 in
set_option maxHeartbeats 4000000 in
theorem lawKeeps (w : World) (ops : List OpS) (v : Value) (hs : Src w 5 v ops.length (opsV ops)) (hl : ops.length ≤ 2600000000000) :
    Calls Try.prog 3 #[v] w fun e w' => e = .returned (.bool true) ∧ Below w.heap.size w w' := by
  obtain ⟨_, _, A, c, rfl, hA⟩ := hs
  obtain ⟨n, hn⟩ : ∃ n, ops.length = n := ⟨_, rfl⟩
  rw [hn] at hA hl ⊢
  have hcell : ∀ k, (hk : k < ops.length) → ∃ b o, A = some ⟨b, o, none⟩ ∧ b < w.heap.size ∧ ∀ j u, (opV ops[k])[j]? = some u → w.cell? ⟨b, o + k * 5 + j, none⟩ = some u := by
    intro k hk
    rcases hA with hA | ⟨b, o, hb, hc⟩
    · omega
    · have hget : ∀ j u, (opV ops[k])[j]? = some u → w.cell? ⟨b, o + k * 5 + j, none⟩ = some u := by
        intro j u hu
        have hj : j < 5 := by
          have := (List.getElem?_eq_some_iff.1 hu).1
          simpa [opV] using this
        rw [Nat.add_assoc]
        exact hc _ _ ((opsV_get ops k j (by omega) hj).trans hu)
      exact ⟨b, o, hb, World.block_lt_of_cell? w _ (hget 0 _ rfl), hget⟩
  have HN := Lib.hid hn
  have HC := Lib.hid hcell
  clear hA hcell hn
  go_enter Try.func3, Try.ntmps3
  go_wp2_with fail
  refine (shown_any _).mono ?_
  rintro e w0 ⟨rfl, b0⟩
  go_wp2_with fail
  refine (new_shelf _).mono ?_
  rintro e w1 ⟨rfl, s1, b1⟩
  go_wp2_with fail
  refine (callQ _ _ _ s1).mono ?_
  rintro e w2 ⟨A2, c2, F2, rfl, r2, s2, f2, k2⟩
  have z0 := b0.size
  have z1 := b1.size
  have z2 := k2.size
  have hm0 : KMem w (((w2.alloc (.cells #[.int .i64 0, .int .i64 0, .slice A2 0 c2] 28)).alloc (.cells #[] 9)).alloc (.cells #[] 99)) w0.heap.size w2.heap.size shQ [] [] (.slice (some ⟨w2.heap.size + 1, 0, none⟩) 0 0) (.slice (some ⟨w2.heap.size + 1 + 1, 0, none⟩) 0 0) := by
    have l2 : ∀ k, F2 k → w.heap.size ≤ k ∧ k < w2.heap.size := fun k hk => by
      rcases f2 k hk with h | h
      · exact ⟨by have := h.1; omega, by have := h.2; omega⟩
      · exact ⟨by have := h.1.1; omega, h.1.2⟩
    have hb2 : Below w.heap.size w w2 := (b0.trans (b1.mono z0)).trans (k2.belowB (by omega) (fun k hk h => by have := h.1; omega))
    have ka : Keep (fun _ => False) w2 (((w2.alloc (.cells #[.int .i64 0, .int .i64 0, .slice A2 0 c2] 28)).alloc (.cells #[] 9)).alloc (.cells #[] 99)) := (((Keep.refl _ _).alloc _).alloc _).alloc _
    have zz : (((w2.alloc (.cells #[.int .i64 0, .int .i64 0, .slice A2 0 c2] 28)).alloc (.cells #[] 9)).alloc (.cells #[] 99)).heap.size = w2.heap.size + 1 + 1 + 1 := by simp
    refine ⟨F2, fun k => k = w2.heap.size + 1, fun k => k = w2.heap.size + 1 + 1, .int .i64 0, .int .i64 0, .slice A2 0 c2, s2.keep ka (fun _ _ h => h), ?_, ?_, ?_, hb2.trans (ka.belowB (by omega) (fun _ _ h => h)), fun k hk => ?_, fun k hk => ?_, fun k hk => ?_, by omega⟩
    · exact (Row.emptyAt _ _ 1 (w2.heap.size + 1) (by simp)).alloc _
    · simpa [groupsI] using Row.emptyAt ((w2.alloc (.cells #[.int .i64 0, .int .i64 0, .slice A2 0 c2] 28)).alloc (.cells #[] 9)) 99 2 (w2.heap.size + 1 + 1) (by simp)
    · exact (hp_alloc_lt (by simp; omega) _).trans ((hp_alloc_lt (by simp) _).trans (heap_alloc_new w2 _))
    · have := l2 k hk; rw [zz]; exact ⟨this.1, by omega, by omega, by omega, by omega⟩
    · subst hk; rw [zz]; exact ⟨by omega, by omega, by omega⟩
    · subst hk; rw [zz]; exact ⟨by omega, by omega, by omega⟩
  have HM0 := Lib.hid hm0
  clear hm0
  go_wp2_with fail
  go_loopw [7, 8, 9] (fun vp vg i wr => ∃ k : Nat, k ≤ n ∧ i = .int .i64 k ∧ ∃ S pushed gs, KInv S pushed gs ∧ pushed.length ≤ k ∧ gs.length ≤ k ∧ KMem w wr w0.heap.size w2.heap.size S pushed gs vp vg) (fun _ _ i _ => n - (intOf i).toNat)
  case atStart => exact ⟨0, Nat.zero_le _, rfl, shQ, [], [], kinv0, Nat.le_refl _, Nat.le_refl _, HM0.out⟩
  case round =>
    obtain ⟨k, hk, rfl, S, pushed, gs, hI, hpl, hgl, hm⟩ := hrel
    by_cases hlt : k < n
    · have hkl : k < ops.length := by rw [HN.out]; exact hlt
      obtain ⟨b, o, rfl, hbl, hget⟩ := HC.out k hkl
      obtain ⟨op, hop⟩ : ∃ op, ops[k] = op := ⟨_, rfl⟩
      rw [hop] at hget
      clear hop
      obtain ⟨kd, nm, tx, num, most⟩ := op
      obtain ⟨F, Fp, Fg, x, y, z, sh, rp, rg, h4, hbw, hF, hFp, hFg, hb4⟩ := hm
      obtain ⟨Ap, cp, rfl⟩ := rp.form
      obtain ⟨Ag, cg, rfl⟩ := rg.form
      have hzw := hbw.size
      have l4 := lt_of_heap h4
      have p0 := (hbw.cell (p := ⟨b, o + k * 5, none⟩) hbl).trans (hget 0 _ rfl)
      have p1 := (hbw.cell (p := ⟨b, o + k * 5 + 1, none⟩) hbl).trans (hget 1 _ rfl)
      have p2 := (hbw.cell (p := ⟨b, o + k * 5 + 2, none⟩) hbl).trans (hget 2 _ rfl)
      have p3 := (hbw.cell (p := ⟨b, o + k * 5 + 3, none⟩) hbl).trans (hget 3 _ rfl)
      have p4 := (hbw.cell (p := ⟨b, o + k * 5 + 4, none⟩) hbl).trans (hget 4 _ rfl)
      clear hget
      obtain ⟨a, ha, hk⟩ : ∃ a, doS S ⟨kd, nm, tx, num, most⟩ = a ∧ KOut ⟨kd, nm, tx, num, most⟩ a pushed gs := ⟨_, rfl, keeps_all hI _⟩
      have hdo := do_any F (wr.alloc (.cells #[.int .i64 kd, .string nm, .string tx, .int .i64 num, .int .i64 most] 33)) w0.heap.size S ⟨kd, nm, tx, num, most⟩ (sh.keep ((Keep.refl (fun _ => False) wr).alloc _) (fun _ _ h => h)) hI.good
      rw [ha] at hdo
      have HK := Lib.hid hk
      clear ha hk
      by_cases hq : nm = bQ
      · have hq1 : (nm.toList == [113]) = true := by rw [hq, bQ_list]; rfl
        have hq2 : (!(nm.toList == [113])) = false := by rw [hq1]; rfl
        have HQ := Lib.hid hq
        clear hq
        by_cases h2 : kd = 2
        · have h2' : (kd == 2) = true := by simpa using h2
          clear h2 hdo
          have HM := Lib.hid (KMem.below (w' := wr.alloc (.cells #[.int .i64 kd, .string nm, .string tx, .int .i64 num, .int .i64 most] 33)) ⟨F, Fp, Fg, x, y, z, sh, rp, rg, h4, hbw, hF, hFp, hFg, hb4⟩ ((Below.refl _ _).alloc (Nat.le_refl _) _))
          go_wp2_with fail
          go_roundw
          case rel => exact ⟨k + 1, by omega, by go_num, S, pushed, gs, hI, by omega, by omega, HM.out⟩
          case measure => simp [intOf]; omega
        · have h2' : (kd == 2) = false := by simpa using h2
          clear h2
          go_wp2_with fail
          refine hdo.mono ?_
          rintro e w3 ⟨A3, c3, F3, rfl, r3, s3, f3, k3⟩
          have z3 := k3.size
          simp at z3
          have hop := k3.heap (heap_alloc_new wr _) (fun h => by have := (hF _ h).2.1; omega)
          have h43 := k3.heap ((hp_alloc_lt l4 _).trans h4) (fun h => (hF _ h).2.2.2.2 rfl)
          obtain ⟨W3, hW3, tW3, kW3, zW3⟩ := set3 (p := .int .i64 a.r.code) (q := .int .i64 a.r.num) (r := .slice A3 a.r.items.length c3) h43
          have hopW := kW3.heap hop (fun e => by omega)
          have KM := Lib.hid (kmem_after rp rg hbw hF hFp hFg hb4 l4 s3 f3 k3 kW3 zW3 tW3)
          have SRC := Lib.hid (Src.of_row (r3.keep kW3 (fun k hk e => by have := hk.1; simp at this; omega)) (textsV_one _))
          clear rp rg sh h4 p0 p1 p2 p3 p4 zW3
          have ⟨⟨a0, a1, a2⟩, g0, g1, g2⟩ := cells3 h43
          go_upto_region 17 with fail
          clear hW3 h43 hop a0 a1 a2 g0 g1 g2
          have ⟨⟨d0, d1, d2⟩, e0, e1, e2⟩ := cells3 tW3
          have ⟨o0, o1, o2, o3, o4⟩ := cells5 hopW
          by_cases he : a.e = 0
          case neg =>
            have he' : (a.e != 0) = true := by simpa using he
            have HE := Lib.hid he
            clear he
            go_wp2_with fail
            go_roundw
            case rel => exact ⟨k + 1, by omega, by go_num, a.S, pushed, gs, HK.out.other (.inr (.inl HE.out)), by omega, by omega, KM.out⟩
            case measure => simp [intOf]; omega
          case pos =>
          have he' : (a.e != 0) = false := by simpa using he
          have HE := Lib.hid he
          have hkd := HK.out.kind he
          clear he
          by_cases hc : a.r.code = 0
          case neg =>
            have hc' : ((a.r.code : Int) != 0) = true := by simp; omega
            have HC0 := Lib.hid hc
            clear hc hkd
            go_wp2_with fail
            go_roundw
            case rel => exact ⟨k + 1, by omega, by go_num, a.S, pushed, gs, HK.out.other (.inr (.inr (.inl HC0.out))), by omega, by omega, KM.out⟩
            case measure => simp [intOf]; omega
          case pos =>
          have hc' : ((a.r.code : Int) != 0) = false := by simp; omega
          have HC0 := Lib.hid hc
          clear hc
          simp only at hkd
          have hne2 : kd ≠ 2 := by simpa using h2'
          have hkk : kd = 1 ∨ kd = 3 ∨ kd = 4 ∨ kd = 5 ∨ kd = 6 ∨ kd = 7 ∨ kd = 8 := by omega
          clear hkd hne2 h2'
          obtain ⟨F', Fp', Fg', x', y', z', sh', rp', rg', h4', hbw', hF', hFp', hFg', hb4'⟩ := KM.out
          rcases hkk with rfl | rfl | rfl | rfl | rfl | rfl | rfl
          · go_wp2_with fail
            go_roundw
            case rel => exact ⟨k + 1, by omega, by go_num, a.S, pushed, gs, HK.out.other (.inr (.inr (.inr (.inl rfl)))), by omega, by omega, KM.out⟩
            case measure => simp [intOf]; omega
          · have ⟨hn, hi⟩ := HK.out.push HQ.out HE.out HC0.out rfl
            have hn' : ((a.r.num : Int) != (pushed.length : Int)) = false := by simp; omega
            have HI := Lib.hid hi
            clear hn hi
            obtain ⟨i0, hi0, iz0, iz1, iz2⟩ := info_parts Try.infoString
            go_wp2_with (at_builtin; refine wpList_app rfl _ _ 26 rfl 9 i0 (.string ⟨#[]⟩) 1 16 Try.underlying26 hi0 iz0 iz1 iz2 rfl (by decide) (rp'.alloc _) (Src.one _ _ _ rfl) rfl rfl ?c1 ?c2 ?_)
            case c1 => unfold maxLen; omega
            case c2 => omega
            intro A4 c4 w4 hr4 hg4
            have HM := Lib.hid (kmem_push sh' rp' rg' h4' hbw' hF' hFp' hFg' hb4' hr4 hg4)
            clear hr4 hg4
            go_wp2
            go_roundw
            case rel => exact ⟨k + 1, by omega, by go_num, a.S, pushed ++ [tx], gs, HI.out, by simp; omega, by omega, HM.out⟩
            case measure => simp [intOf]; omega
          · go_wp2_with fail
            go_roundw
            case rel => exact ⟨k + 1, by omega, by go_num, a.S, pushed, gs, HK.out.trim HQ.out HE.out HC0.out rfl, by omega, by omega, KM.out⟩
            case measure => simp [intOf]; omega
          · have ⟨hn, ht, hg, hi⟩ := HK.out.take HQ.out HE.out HC0.out rfl
            have hn' : ((a.r.items.length : Int) != 1) = false := by simp; omega
            have HI := Lib.hid hi
            have HT := Lib.hid ht
            have HG := Lib.hid hg
            clear hn hi ht hg
            have hcap := rp'.cap
            go_wp2_with fail
            refine (told_any _ pushed a.r.items a.r.code a.r.num _ _ (Src.of_row rp' (textsV_one _)) SRC.out (by omega) (fun A k c e => by injection e with _ e1 e2; subst e1; subst e2; exact hcap.1) (fun A k c e => by injection e with _ e1 e2; subst e2; have := hcap.2; unfold maxLen at this; exact this) HT.out).mono ?_
            rintro e w4 ⟨rfl, hbl4⟩
            have tW4 := (hbl4.block _ (lt_of_heap tW3)).trans tW3
            have oW4 := (hbl4.block _ (lt_of_heap hopW)).trans hopW
            have ⟨⟨i0, i1, i2⟩, _, _, _⟩ := cells3 tW4
            have ⟨j0, j1, j2, j3, j4⟩ := cells5 oW4
            have KM4 := Lib.hid (KM.out.below hbl4)
            clear d0 d1 d2 e0 e1 e2 o0 o1 o2 o3 o4 tW3 hopW rp' sh' h4'
            have SG := Lib.hid ((Src.of_row rg' (groupsI_one _)).below hbl4)
            clear rg'
            go_wp2_with fail
            refine (took_any _ gs tx a.r.num _ SG.out (by omega) HG.out).mono ?_
            rintro e w5 ⟨A5, c5, rfl, hr5, hbl5⟩
            have hlen := tookS_length gs tx a.r.num
            have HM := Lib.hid (kmem_took KM4.out hr5 hbl5)
            clear hr5 i0 i1 i2 j0 j1 j2 j3 j4
            go_wp2_with fail
            go_roundw
            case rel => exact ⟨k + 1, by omega, by go_num, a.S, pushed, tookS gs tx a.r.num, HI.out, by omega, by omega, HM.out⟩
            case measure => simp [intOf]; omega
          · have ⟨hlm, hnm, ht, hi⟩ := HK.out.read HQ.out HE.out HC0.out rfl
            simp only at hlm hnm
            have HI := Lib.hid hi
            have HT := Lib.hid ht
            clear hi ht
            have hcap := rp'.cap
            have htold := told_any W3 pushed a.r.items a.r.code a.r.num _ _ (Src.of_row rp' (textsV_one _)) SRC.out (by omega) (fun A k c e => by injection e with _ e1 e2; subst e1; subst e2; exact hcap.1) (fun A k c e => by injection e with _ e1 e2; subst e2; have := hcap.2; unfold maxLen at this; exact this) HT.out
            have HTO := Lib.hid htold
            clear htold sh' rp' rg' h4'
            by_cases hpos : 0 < a.r.items.length
            · have hnn := hnm hpos
              have hpos' : (0 : Int) < (a.r.items.length : Int) := by omega
              clear hnm
              go_wp2_with fail
              refine HTO.out.mono ?_
              rintro e w4 ⟨rfl, hbl4⟩
              have KM4 := Lib.hid (KM.out.below hbl4)
              clear d0 d1 d2 e0 e1 e2 o0 o1 o2 o3 o4
              go_wp2_with fail
              go_roundw
              case rel => exact ⟨k + 1, by omega, by go_num, a.S, pushed, gs, HI.out, by omega, by omega, KM4.out⟩
              case measure => simp [intOf]; omega
            · have hpos' : ¬ (0 : Int) < (a.r.items.length : Int) := by omega
              clear hnm
              go_wp2_with fail
              refine HTO.out.mono ?_
              rintro e w4 ⟨rfl, hbl4⟩
              have KM4 := Lib.hid (KM.out.below hbl4)
              clear d0 d1 d2 e0 e1 e2 o0 o1 o2 o3 o4
              go_wp2_with fail
              go_roundw
              case rel => exact ⟨k + 1, by omega, by go_num, a.S, pushed, gs, HI.out, by omega, by omega, KM4.out⟩
              case measure => simp [intOf]; omega
          · have ⟨hn, hm32, hi⟩ := HK.out.count HQ.out HE.out HC0.out rfl
            have HI := Lib.hid hi
            clear hi
            go_wp2_with fail
            go_roundw
            case rel => exact ⟨k + 1, by omega, by go_num, a.S, pushed, gs, HI.out, by omega, by omega, KM.out⟩
            case measure => simp [intOf]; omega
          · go_wp2_with fail
            go_roundw
            case rel => exact ⟨k + 1, by omega, by go_num, a.S, pushed, gs, HK.out.other (.inr (.inr (.inr (.inr rfl)))), by omega, by omega, KM.out⟩
            case measure => simp [intOf]; omega
      · have hq1 : (nm.toList == [113]) = false := by
          have := tl_beq nm bQ
          rw [bbeq_ne hq] at this
          rwa [bQ_list] at this
        have hq2 : (!(nm.toList == [113])) = true := by rw [hq1]; rfl
        have HQ := Lib.hid hq
        clear hq
        have hcase : (kd == 2) = true ∨ (kd == 2) = false := by cases (kd == 2) <;> simp
        rcases hcase with h2' | h2'
        all_goals
          go_wp2_with fail
          refine hdo.mono ?_
          rintro e w3 ⟨A3, c3, F3, rfl, r3, s3, f3, k3⟩
          have z3 := k3.size
          simp at z3
          have hop := k3.heap (heap_alloc_new wr _) (fun h => by have := (hF _ h).2.1; omega)
          have h43 := k3.heap ((hp_alloc_lt l4 _).trans h4) (fun h => (hF _ h).2.2.2.2 rfl)
          obtain ⟨W3, hW3, tW3, kW3, zW3⟩ := set3 (p := .int .i64 a.r.code) (q := .int .i64 a.r.num) (r := .slice A3 a.r.items.length c3) h43
          have hopW := kW3.heap hop (fun e => by omega)
          have KM := Lib.hid (kmem_after rp rg hbw hF hFp hFg hb4 l4 s3 f3 k3 kW3 zW3 tW3)
          have SRC := Lib.hid (Src.of_row (r3.keep kW3 (fun k hk e => by have := hk.1; simp at this; omega)) (textsV_one _))
          clear rp rg sh h4 p0 p1 p2 p3 p4 zW3
          have ⟨⟨a0, a1, a2⟩, g0, g1, g2⟩ := cells3 h43
          go_upto_region 17 with fail
          clear hW3 h43 hop a0 a1 a2 g0 g1 g2
          have ⟨⟨d0, d1, d2⟩, e0, e1, e2⟩ := cells3 tW3
          have ⟨o0, o1, o2, o3, o4⟩ := cells5 hopW
          go_wp2_with fail
          all_goals
            go_roundw
            case rel => exact ⟨k + 1, by omega, by go_num, a.S, pushed, gs, HK.out.other (.inl HQ.out), by omega, by omega, KM.out⟩
            case measure => simp [intOf]; omega
    · go_wp2_with fail
      go_ret
      obtain ⟨F, Fp, Fg, x, y, z, sh, rp, rg, h4, hbw, rest⟩ := hm
      exact ⟨rfl, hbw⟩
end Go.Proofs.Ytfahakmnlmlgcaa
