/-
  The walk of the statement ShelfOnly.
-/
import Derived.Test.YtfahakmnlmlgcaaOnlyP
import Derived.Test.YtfahakmnlmlgcaaRefChk2
import Derived.Test.YtfahakmnlmlgcaaKeepsM
namespace Go.Proofs.Ytfahakmnlmlgcaa
open Go.RowKit Go.Lib
set_option linter.unusedVariables false
set_option linter.unusedSimpArgs false

/-- The shelf, and nothing that was there before w changed. -/
structure St (w W : World) (g : Nat) (S : Nat → Option Qu) (F : Nat → Prop) : Prop where
  sh : ShelfAt F W g S
  lo : ∀ k, F k → w.heap.size ≤ k ∧ k < W.heap.size
  bl : Below w.heap.size w W
theorem St.below {w W W' : World} {g : Nat} {S : Nat → Option Qu} {F : Nat → Prop} (h : St w W g S F) (hb : Below W.heap.size W W') : St w W' g S F :=
  ⟨h.sh.keep (Keep.of_below (M := fun _ => False) hb) (fun _ _ h => h), fun k hk => ⟨(h.lo k hk).1, Nat.lt_of_lt_of_le (h.lo k hk).2 hb.size⟩, h.bl.trans (hb.mono h.bl.size)⟩
theorem St.alloc {w W : World} {g : Nat} {S : Nat → Option Qu} {F : Nat → Prop} (h : St w W g S F) (o : Obj) : St w (W.alloc o) g S F := h.below ((Below.refl _ _).alloc (Nat.le_refl _) _)
theorem St.step {w W W2 : World} {g : Nat} {S S2 : Nat → Option Qu} {F F2 : Nat → Prop} {Q : Nat → Prop} (h : St w W g S F) (s2 : ShelfAt F2 W2 g S2) (f2 : ∀ k, F2 k → F k ∨ (Made W W2 k ∧ Q k)) (k2 : Keep F W W2) : St w W2 g S2 (fun k => F2 k ∧ k < W2.heap.size) := by
  have z1 := h.bl.size
  have z2 := k2.size
  refine ⟨s2.cut, fun k hk => ⟨?_, hk.2⟩, h.bl.trans (k2.belowB z1 (fun k hk hF => by have := (h.lo k hF).1; omega))⟩
  rcases f2 k hk.1 with h3 | h3
  · exact (h.lo k h3).1
  · have := h3.1.1; omega
/-- Apart from the shelf. -/
def Ap (G F : Nat → Prop) (W : World) : Prop := ∀ k, G k → k < W.heap.size ∧ ¬ F k
theorem Ap.below {G F : Nat → Prop} {W W' : World} (h : Ap G F W) (hb : Below W.heap.size W W') : Ap G F W' := fun k hk => ⟨Nat.lt_of_lt_of_le (h k hk).1 hb.size, (h k hk).2⟩
theorem Ap.step {G F F2 : Nat → Prop} {W W2 : World} {Q : Nat → Prop} (h : Ap G F W) (f2 : ∀ k, F2 k → F k ∨ (Made W W2 k ∧ Q k)) (k2 : Keep F W W2) : Ap G (fun k => F2 k ∧ k < W2.heap.size) W2 := fun k hk =>
  ⟨Nat.lt_of_lt_of_le (h k hk).1 k2.size, fun hf => by
    rcases f2 k hf.1 with h3 | h3
    · exact (h k hk).2 h3
    · have := h3.1.1; have := (h k hk).1; omega⟩
theorem Ap.made {F : Nat → Prop} {W W' : World} (hF : ∀ k, F k → k < W.heap.size) : Ap (Made W W') F W' := fun k hk => ⟨hk.2, fun hf => by have := hF k hf; have := hk.1; omega⟩
theorem OwnB.belowB {G : Nat → Prop} {W W' : World} {v : Value} {ls : List (List UInt8)} (h : OwnB G W v ls) (hb : Below W.heap.size W W') : OwnB G W' v ls := h.keep (Keep.of_below (M := fun _ => False) hb) (fun _ _ h => h)
theorem OwnB.stepF {G F : Nat → Prop} {W W' : World} {v : Value} {ls : List (List UInt8)} (h : OwnB G W v ls) (ha : Ap G F W) (k : Keep F W W') : OwnB G W' v ls := h.keep k (fun b hb => (ha b hb).2)

theorem Row.own {F : Nat → Prop} {w : World} {e size n : Nat} {v : Value} {xs : List Value} (h : Row F w e size v n xs) : Row (fun k => v.ownBlock = some k) w e size v n xs := ⟨h.1, fun k hk => hk⟩
theorem row_ap {F F2 : Nat → Prop} {W W2 : World} {e size n : Nat} {v : Value} {xs : List Value} (r : Row (Made W W2) W2 e size v n xs) (hF : ∀ k, F k → k < W.heap.size) (f2 : ∀ k, F2 k → F k ∨ (Made W W2 k ∧ v.ownBlock ≠ some k)) :
    Ap (fun k => v.ownBlock = some k) (fun k => F2 k ∧ k < W2.heap.size) W2 := fun k hk => ⟨(r.2 k hk).2, fun hf => by
  rcases f2 k hf.1 with h | h
  · have := hF k h; have := (r.2 k hk).1; omega
  · exact h.2 hk⟩
theorem Row.belowB {F : Nat → Prop} {w w' : World} {e size n : Nat} {v : Value} {xs : List Value} (h : Row F w e size v n xs) (hb : Below w.heap.size w w') : Row F w' e size v n xs := h.keep (Keep.of_below (M := fun _ => False) hb) (fun _ _ h => h)
theorem Row.stepF {G F : Nat → Prop} {w w' : World} {e size n : Nat} {v : Value} {xs : List Value} (h : Row G w e size v n xs) (ha : Ap G F w) (k : Keep F w w') : Row G w' e size v n xs := h.keep k (fun b hb => (ha b hb).2)
theorem below_alloc (w : World) (o : Obj) : Below w.heap.size w (w.alloc o) := (Below.refl _ _).alloc (Nat.le_refl _) _
theorem slotsUp_fits {S : Nat → Option Qu} (hG : GoodS S) : ∀ x ∈ slotsUp S 8, x.length ≤ 2197 := by
  intro x hx
  simp only [slotsUp, List.mem_map, List.mem_range] at hx
  obtain ⟨i, hi, rfl⟩ := hx
  exact slotB_fits (fun r hr => hG.each i hi r hr)

set_option maxRecDepth 100000 in
set_option maxHeartbeats 4000000 in
theorem lawOnly (w : World) (ops : List OpS) (v : Value) (hs : Src w 5 v ops.length (opsV ops)) (hl : ops.length ≤ 2600000000000) :
    Calls Try.prog 5 #[v] w fun e w' => e = .returned (.bool true) ∧ Below w.heap.size w w' := by
  obtain ⟨_, _, A, c, rfl, hA⟩ := hs
  obtain ⟨n, hn⟩ : ∃ n, ops.length = n := ⟨_, rfl⟩
  rw [hn] at hA hl ⊢
  have hcell : ∀ k, (hk : k < ops.length) → ∃ b o, A = some ⟨b, o, none⟩ ∧ b < w.heap.size ∧ ∀ j u, (opV ops[k])[j]? = some u → w.cell? ⟨b, o + k * 5 + j, none⟩ = some u := by
    intro k hk
    rcases hA with hA | ⟨b, o, hb, hc⟩
    · omega
    · have hget : ∀ j u, (opV ops[k])[j]? = some u → w.cell? ⟨b, o + k * 5 + j, none⟩ = some u := by
        intro j u hu
        have hj : j < 5 := by
          have := (List.getElem?_eq_some_iff.1 hu).1
          simpa [opV] using this
        rw [Nat.add_assoc]
        exact hc _ _ ((opsV_get ops k j (by omega) hj).trans hu)
      exact ⟨b, o, hb, World.block_lt_of_cell? w _ (hget 0 _ rfl), hget⟩
  have HN := Lib.hid hn
  have HC := Lib.hid hcell
  clear hA hcell hn
  go_enter Try.func5, Try.ntmps5
  go_wp2_with fail
  refine (shown_any _).mono ?_
  rintro e w0 ⟨rfl, b0⟩
  go_wp2_with fail
  refine (new_shelf _).mono ?_
  rintro e w1 ⟨rfl, s1, b1⟩
  have z0 := b0.size
  have z1 := b1.size
  have hst0 : St w w1 w0.heap.size (fun _ => none) (Made w0 w1) := ⟨s1, fun k hk => ⟨by have := hk.1; omega, hk.2⟩, b0.trans (b1.mono z0)⟩
  clear s1
  go_wp2_with fail
  go_loopw [4] (fun i wr => ∃ k : Nat, k ≤ n ∧ i = .int .i64 k ∧ ∃ S F, GoodS S ∧ St w wr w0.heap.size S F) (fun i _ => n - (intOf i).toNat)
  case atStart => exact ⟨0, Nat.zero_le _, rfl, _, _, good_none, hst0⟩
  case round =>
    obtain ⟨k, hk, rfl, S, F, hG, hst⟩ := hrel
    by_cases hlt : k < n
    · have hkl : k < ops.length := by rw [HN.out]; exact hlt
      obtain ⟨b, o, rfl, hbl, hget⟩ := HC.out k hkl
      obtain ⟨op, hop⟩ : ∃ op, ops[k] = op := ⟨_, rfl⟩
      rw [hop] at hget
      clear hop
      obtain ⟨a, ha, hk⟩ : ∃ a, doS S op = a ∧ OnlyOut S op a := ⟨_, rfl, only_all hG op⟩
      obtain ⟨q, hq⟩ : ∃ q, askS S op = q := ⟨_, rfl⟩
      have hdo := fun F W h => do_any F W w0.heap.size S op h hG
      have hask := fun F W h => ask_any F W w0.heap.size S op h hG
      have hchk := fun W => check_any op W
      have hqd : q = if checkS op ≠ 0 then (⟨0, 0, []⟩, checkS op) else if 6 ≤ op.kind ∧ op.kind ≤ 8 then (a.r, 0) else (⟨0, 0, []⟩, 56) := by rw [← hq, ← ha, askS]
      have hGa : GoodS a.S := by rw [← ha]; exact doS_good hG op
      rw [ha] at hdo
      rw [hq] at hask
      rw [← hk.err] at hchk hqd
      have HQD := Lib.hid hqd
      have HK := Lib.hid hk
      have HDO := Lib.hid hdo
      have HASK := Lib.hid hask
      clear ha hq hk hdo hask hqd
      obtain ⟨kd, nm, tx, num, most⟩ := op
      unfold OpS.val at hchk HDO HASK
      simp only at hchk HDO HASK
      have HGET := Lib.hid hget
      clear hget
      -- slots
      go_wp2_with fail
      refine (slots_any F wr w0.heap.size S hst.sh hG).mono ?_
      rintro e wa ⟨vb, rfl, ob, ba⟩
      obtain ⟨Ab, cb, hvb⟩ := ob.form
      rw [slotsUp_length] at hvb
      subst hvb
      have zr := hst.bl.size
      have za := ba.size
      have apb := Ap.made (W := wr) (W' := wa) (fun k hk => (hst.lo k hk).2)
      have hst := hst.below ba
      have p0 := (hst.bl.cell (p := ⟨b, o + k * 5, none⟩) hbl).trans (HGET.out 0 _ rfl)
      have p1 := (hst.bl.cell (p := ⟨b, o + k * 5 + 1, none⟩) hbl).trans (HGET.out 1 _ rfl)
      have p2 := (hst.bl.cell (p := ⟨b, o + k * 5 + 2, none⟩) hbl).trans (HGET.out 2 _ rfl)
      have p3 := (hst.bl.cell (p := ⟨b, o + k * 5 + 3, none⟩) hbl).trans (HGET.out 3 _ rfl)
      have p4 := (hst.bl.cell (p := ⟨b, o + k * 5 + 4, none⟩) hbl).trans (HGET.out 4 _ rfl)
      -- Ask
      go_wp2_with fail
      refine (HASK.out F wa hst.sh).mono ?_
      rintro e wb ⟨A6, c6, F2, rfl, r6, s2, f2, k2⟩
      have ob2 := ob.stepF apb k2
      have apb2 := apb.step f2 k2
      have ap6 := row_ap r6 (fun k hk => (hst.lo k hk).2) f2
      have hst2 := hst.step s2 f2 k2
      have r6' := r6.own
      have z2 := k2.size
      clear hst ob apb s2 r6 p0 p1 p2 p3 p4 k2 f2
      -- slots once more, alike
      go_wp2_with fail
      have hst3 := hst2.alloc (.cells #[.int .i64 q.1.code, .int .i64 q.1.num, .slice A6 q.1.items.length c6] 28)
      refine (slots_any _ _ w0.heap.size S hst3.sh hG).mono ?_
      rintro e wc ⟨v2, rfl, oc, bc⟩
      have ba6 := below_alloc wb (.cells #[.int .i64 q.1.code, .int .i64 q.1.num, .slice A6 q.1.items.length c6] 28)
      have bbc := ba6.trans (bc.mono ba6.size)
      have zc := bbc.size
      have ob3 := ob2.belowB bbc
      have h6 := (bc.block wb.heap.size (by simp)).trans (heap_alloc_new wb _)
      have hst4 := hst2.below bbc
      have apb3 := apb2.below bbc
      have ap6' := ap6.below bbc
      have r6c := r6'.belowB bbc
      have fit := slotsUp_fits hG
      clear hst3 hst2 ob2 apb2 ap6 r6'
      go_wp2_with fail
      refine (sameSlots_any wc (slotsUp S 8) (slotsUp S 8) _ _ ob3.src oc.src (by rw [slotsUp_length]; omega) (by rw [slotsUp_length]; omega) (fun x hx => by have := fit x hx; omega) (fun x hx => by have := fit x hx; omega)).mono ?_
      rintro e wd ⟨he, q3, hq3⟩
      rw [decide_eq_true rfl] at he
      subst he
      have bd : Below wc.heap.size wc wd := by rw [hq3]; exact below_drewN _
      clear hq3 oc
      have zd := bd.size
      have ob4 := ob3.belowB bd
      have h6d := (bd.block _ (lt_of_heap h6)).trans h6
      have hst5 := hst4.below bd
      have apb4 := apb3.below bd
      have ap6d := ap6'.below bd
      have r6d := r6c.belowB bd
      clear hst4 ob3 apb3 ap6' r6c h6
      have p0 := (hst5.bl.cell (p := ⟨b, o + k * 5, none⟩) hbl).trans (HGET.out 0 _ rfl)
      have p1 := (hst5.bl.cell (p := ⟨b, o + k * 5 + 1, none⟩) hbl).trans (HGET.out 1 _ rfl)
      have p2 := (hst5.bl.cell (p := ⟨b, o + k * 5 + 2, none⟩) hbl).trans (HGET.out 2 _ rfl)
      have p3 := (hst5.bl.cell (p := ⟨b, o + k * 5 + 3, none⟩) hbl).trans (HGET.out 3 _ rfl)
      have p4 := (hst5.bl.cell (p := ⟨b, o + k * 5 + 4, none⟩) hbl).trans (HGET.out 4 _ rfl)
      -- Do
      go_wp2_with fail
      refine (HDO.out _ wd hst5.sh).mono ?_
      rintro e we ⟨A8, c8, F3, rfl, r8, s3, f3, k3⟩
      have ob5 := ob4.stepF apb4 k3
      have r6e := r6d.stepF ap6d k3
      have h6e := k3.heap h6d (fun h => by have := h.2; omega)
      have r8' := r8.own
      have hst6 := hst5.step s3 f3 k3
      have z3 := k3.size
      clear hst5 ob4 apb4 ap6d r6d h6d p0 p1 p2 p3 p4 s3 r8 f3 k3
      -- slots behind it
      go_wp2_with fail
      have hst7 := hst6.alloc (.cells #[.int .i64 a.r.code, .int .i64 a.r.num, .slice A8 a.r.items.length c8] 28)
      refine (slots_any _ _ w0.heap.size a.S hst7.sh hGa).mono ?_
      rintro e wf ⟨va, rfl, oa, bf⟩
      obtain ⟨Aa, ca, hva⟩ := oa.form
      rw [slotsUp_length] at hva
      subst hva
      have ba8 := below_alloc we (.cells #[.int .i64 a.r.code, .int .i64 a.r.num, .slice A8 a.r.items.length c8] 28)
      have bbf := ba8.trans (bf.mono ba8.size)
      have zf := bbf.size
      have ob6 := ob5.belowB bbf
      have h8 := (bf.block we.heap.size (by simp)).trans (heap_alloc_new we _)
      have h6f := (bbf.block _ (lt_of_heap h6e)).trans h6e
      have r6f := r6e.belowB bbf
      have r8f := r8'.belowB bbf
      have hst8 := hst6.below bbf
      have p0 := (hst8.bl.cell (p := ⟨b, o + k * 5, none⟩) hbl).trans (HGET.out 0 _ rfl)
      have p1 := (hst8.bl.cell (p := ⟨b, o + k * 5 + 1, none⟩) hbl).trans (HGET.out 1 _ rfl)
      have p2 := (hst8.bl.cell (p := ⟨b, o + k * 5 + 2, none⟩) hbl).trans (HGET.out 2 _ rfl)
      have p3 := (hst8.bl.cell (p := ⟨b, o + k * 5 + 3, none⟩) hbl).trans (HGET.out 3 _ rfl)
      have p4 := (hst8.bl.cell (p := ⟨b, o + k * 5 + 4, none⟩) hbl).trans (HGET.out 4 _ rfl)
      clear hst6 hst7 ob5 r6e r8' h6e
      go_wp2_with fail
      refine (hchk _).mono ?_
      rintro e wg ⟨rfl, bg⟩
      have ob7 := ob6.belowB bg
      have oa7 := oa.belowB bg
      have h8g := (bg.block _ (lt_of_heap h8)).trans h8
      have h6g := (bg.block _ (lt_of_heap h6f)).trans h6f
      have S6 := Src.of_row (r6f.belowB bg) (textsV_one _)
      have S8 := Src.of_row (r8f.belowB bg) (textsV_one _)
      have hst9 := hst8.below bg
      clear hst8 p0 p1 p2 p3 p4 ob6 oa r6f r8f h8 h6f
      have hr1 := HK.out.range.1
      have hr2 := HK.out.range.2
      by_cases he : a.e = 0
      · have he1 : (a.e == 0) = true := by simpa using he
        have he2 : (a.e != 0) = false := by simpa using he
        have HE := Lib.hid he
        have hchk0 := HK.out.res he
        clear he
        have hcr := fun W h => checkRes_any a.r.code a.r.num a.r.items (.slice A8 a.r.items.length c8) W 0 hchk0 h
        have hlen8 : a.r.items.length ≤ 8 := by
          unfold checkResS at hchk0
          (repeat' split at hchk0) <;> omega
        have HCR := Lib.hid (fun W h => hcr W h (by omega))
        clear hchk0 hcr
        have ⟨⟨x0, x1, x2⟩, _, _, _⟩ := cells3 h8g
        have ⟨⟨y0, y1, y2⟩, _, _, _⟩ := cells3 h6g
        go_wp2_with fail
        refine (HCR.out _ S8).mono ?_
        rintro e wh ⟨rfl, bh⟩
        clear x0 x1 x2 y0 y1 y2
        have ob8 := ob7.belowB bh
        have oa8 := oa7.belowB bh
        have h8h := (bh.block _ (lt_of_heap h8g)).trans h8g
        have h6h := (bh.block _ (lt_of_heap h6g)).trans h6g
        have S6h := S6.below bh
        have S8h := S8.below bh
        have hstA := hst9.below bh
        clear hst9 ob7 oa7 h8g h6g S6 S8
        have p0 := (hstA.bl.cell (p := ⟨b, o + k * 5, none⟩) hbl).trans (HGET.out 0 _ rfl)
        have ⟨⟨x0, x1, x2⟩, _, _, _⟩ := cells3 h8h
        by_cases hqk : 6 ≤ kd ∧ kd ≤ 8
        · have hqe := HQD.out
          try simp only at hqe
          rw [if_neg (by simp [HE.out]), if_pos hqk] at hqe
          subst hqe
          have ⟨⟨y0, y1, y2⟩, _, _, _⟩ := cells3 h6h
          have hqb : (decide ((6 : Int) ≤ kd) && decide (kd ≤ 8)) = true := by simp; omega
          have HQ := Lib.hid hqb
          clear hqb hqk
          go_wp2_with (go_at_call 17; refine (query_any _ _).mono ?_; rintro e w' ⟨rfl, rfl⟩; rw [HQ.out])
          refine (sameResult_any wh a.r.code a.r.num a.r.code a.r.num a.r.items a.r.items _ _ S8h S6h (by omega) (by omega)).mono ?_
          rintro e wz ⟨he, bz⟩
          rw [decide_eq_true ⟨rfl, rfl, rfl⟩] at he
          subst he
          have obz := ob8.belowB bz
          have oaz := oa8.belowB bz
          have hstz := hstA.below bz
          clear hstA ob8 oa8 h8h h6h S6h S8h p0 x0 x1 x2 y0 y1 y2
          obtain ⟨vsb, rb, rbs⟩ := obz
          obtain ⟨vsa, ra, ras⟩ := oaz
          have SB := Lib.hid (Src.of_row rb rbs.one)
          have SA := Lib.hid (Src.of_row ra ras.one)
          have SBS := Lib.hid rbs.src
          have SAS := Lib.hid ras.src
          clear rb ra rbs ras
          rw [slotsUp_length] at SB SA
          go_wp2_with fail
          go_loopw [12] (fun i wx => ∃ j m : Nat, j ≤ 8 ∧ i = .int .i64 j ∧ wx = wz.drewN m) (fun i _ => 8 - (intOf i).toNat)
          case atStart => exact ⟨0, 0, by omega, rfl, rfl⟩
          case round =>
            obtain ⟨j, m, hj, rfl, rfl⟩ := hrel
            by_cases hj8 : j < 8
            · have hjb : j < vsb.length := by rw [SBS.out.1, slotsUp_length]; exact hj8
              have hja : j < vsa.length := by rw [SAS.out.1, slotsUp_length]; exact hj8
              obtain ⟨p1, o1, rfl, g1⟩ := SB.out.get1 j hjb hj8
              obtain ⟨p2, o2, rfl, g2⟩ := SA.out.get1 j hja hj8
              have hs1 := SBS.out.2 j vsb[j] (slotB (S j)) (List.getElem?_eq_getElem hjb) (slotsUp_get S 8 j hj8)
              have hs2 := SAS.out.2 j vsa[j] (slotB (a.S j)) (List.getElem?_eq_getElem hja) (slotsUp_get a.S 8 j hj8)
              have hfb := slotB_fits (q := S j) (fun r hr => hG.each j hj8 r hr)
              have hfa := slotB_fits (q := a.S j) (fun r hr => hGa.each j hj8 r hr)
              have hone := HK.out.one HE.out j hj8
              obtain ⟨x, hx⟩ : ∃ x, vsb[j] = x := ⟨_, rfl⟩
              obtain ⟨y, hy⟩ : ∃ y, vsa[j] = y := ⟨_, rfl⟩
              rw [hx] at g1 hs1
              rw [hy] at g2 hs2
              clear hx hy
              obtain ⟨X1, x2, rfl⟩ := hs1.form
              obtain ⟨Y1, y2, rfl⟩ := hs2.form
              have HS := Lib.hid (fun W (h1 : Src W 1 (.slice X1 (slotB (S j)).length x2) (slotB (S j)).length (bytesV (slotB (S j)))) (h2 : Src W 1 (.slice Y1 (slotB (a.S j)).length y2) (slotB (a.S j)).length (bytesV (slotB (a.S j)))) => same_q W _ _ _ _ h1 h2 (by omega) (by omega))
              have H1 := Lib.hid hs1
              have H2 := Lib.hid hs2
              have hgt : decide ((2197 : Int) < ((slotB (a.S j)).length : Int)) = false := by simp; omega
              have hi0 : (0 : Int) ≤ (j : Int) := by omega
              have hi1 : (j : Int) < 8 := by omega
              clear hs1 hs2
              by_cases hsame : slotB (S j) = slotB (a.S j)
              · have hne : ((j : Int) != a.k) = true := by simpa using hone.1 hsame
                have hde : decide (slotB (S j) = slotB (a.S j)) = true := decide_eq_true hsame
                have HS' := Lib.hid (fun W h1 h2 => by have := HS.out W h1 h2; rwa [hde] at this)
                clear hsame hde hone hfb hfa
                go_wp2_with fail
                go_quiet ((go_at_call 25; first | exact quiet_more (HS'.out _ (H1.out.drewN _) (H2.out.drewN _)) | exact Calls.quiet_of (HS'.out _ (H1.out.drewN _) (H2.out.drewN _))))
                go_wp2_with fail
                go_roundw
                case rel => exact ⟨j + 1, _, by omega, by go_num, rfl⟩
                case measure => simp [intOf]; omega
              · have hne : ((j : Int) != a.k) = false := by
                  cases hjk : ((j : Int) != a.k) with
                  | false => rfl
                  | true => exact absurd (hone.2 (by simpa using hjk)) hsame
                have hde : decide (slotB (S j) = slotB (a.S j)) = false := decide_eq_false hsame
                have HS' := Lib.hid (fun W h1 h2 => by have := HS.out W h1 h2; rwa [hde] at this)
                clear hsame hde hone hfb hfa
                go_wp2_with fail
                go_quiet ((go_at_call 25; first | exact quiet_more (HS'.out _ (H1.out.drewN _) (H2.out.drewN _)) | exact Calls.quiet_of (HS'.out _ (H1.out.drewN _) (H2.out.drewN _))))
                go_wp2_with fail
                go_roundw
                case rel => exact ⟨j + 1, _, by omega, by go_num, rfl⟩
                case measure => simp [intOf]; omega
            · obtain rfl : j = 8 := by omega
              have hstz' := hstz.below (below_drewN m)
              go_wp2_with fail
              go_roundw
              case rel => exact ⟨k + 1, by omega, by go_num, a.S, _, hGa, hstz'⟩
              case measure => simp [intOf]; omega
        · have hqe := HQD.out
          try simp only at hqe
          rw [if_neg (by simp [HE.out]), if_neg hqk] at hqe
          subst hqe
          have ⟨⟨y0, y1, y2⟩, _, _, _⟩ := cells3 h6h
          have hqb : (decide ((6 : Int) ≤ kd) && decide (kd ≤ 8)) = false := by
            cases h6 : (decide ((6 : Int) ≤ kd) && decide (kd ≤ 8)) with
            | false => rfl
            | true => simp at h6; exact absurd h6 hqk
          have HQ := Lib.hid hqb
          clear hqb hqk
          obtain ⟨wz, hwz⟩ : ∃ wz, wh = wz := ⟨_, rfl⟩
          subst hwz
          have obz := ob8
          have oaz := oa8
          have hstz := hstA
          clear hstA ob8 oa8
          go_upto_region 21 with (go_at_call 17; refine (query_any _ _).mono ?_; rintro e w' ⟨rfl, rfl⟩; rw [HQ.out])
          clear h8h h6h S6h S8h p0 x0 x1 x2 y0 y1 y2
          obtain ⟨vsb, rb, rbs⟩ := obz
          obtain ⟨vsa, ra, ras⟩ := oaz
          have SB := Lib.hid (Src.of_row rb rbs.one)
          have SA := Lib.hid (Src.of_row ra ras.one)
          have SBS := Lib.hid rbs.src
          have SAS := Lib.hid ras.src
          clear rb ra rbs ras
          rw [slotsUp_length] at SB SA
          go_wp2_with fail
          go_loopw [12] (fun i wx => ∃ j m : Nat, j ≤ 8 ∧ i = .int .i64 j ∧ wx = wh.drewN m) (fun i _ => 8 - (intOf i).toNat)
          case atStart => exact ⟨0, 0, by omega, rfl, rfl⟩
          case round =>
            obtain ⟨j, m, hj, rfl, rfl⟩ := hrel
            by_cases hj8 : j < 8
            · have hjb : j < vsb.length := by rw [SBS.out.1, slotsUp_length]; exact hj8
              have hja : j < vsa.length := by rw [SAS.out.1, slotsUp_length]; exact hj8
              obtain ⟨p1, o1, rfl, g1⟩ := SB.out.get1 j hjb hj8
              obtain ⟨p2, o2, rfl, g2⟩ := SA.out.get1 j hja hj8
              have hs1 := SBS.out.2 j vsb[j] (slotB (S j)) (List.getElem?_eq_getElem hjb) (slotsUp_get S 8 j hj8)
              have hs2 := SAS.out.2 j vsa[j] (slotB (a.S j)) (List.getElem?_eq_getElem hja) (slotsUp_get a.S 8 j hj8)
              have hfb := slotB_fits (q := S j) (fun r hr => hG.each j hj8 r hr)
              have hfa := slotB_fits (q := a.S j) (fun r hr => hGa.each j hj8 r hr)
              have hone := HK.out.one HE.out j hj8
              obtain ⟨x, hx⟩ : ∃ x, vsb[j] = x := ⟨_, rfl⟩
              obtain ⟨y, hy⟩ : ∃ y, vsa[j] = y := ⟨_, rfl⟩
              rw [hx] at g1 hs1
              rw [hy] at g2 hs2
              clear hx hy
              obtain ⟨X1, x2, rfl⟩ := hs1.form
              obtain ⟨Y1, y2, rfl⟩ := hs2.form
              have HS := Lib.hid (fun W (h1 : Src W 1 (.slice X1 (slotB (S j)).length x2) (slotB (S j)).length (bytesV (slotB (S j)))) (h2 : Src W 1 (.slice Y1 (slotB (a.S j)).length y2) (slotB (a.S j)).length (bytesV (slotB (a.S j)))) => same_q W _ _ _ _ h1 h2 (by omega) (by omega))
              have H1 := Lib.hid hs1
              have H2 := Lib.hid hs2
              have hgt : decide ((2197 : Int) < ((slotB (a.S j)).length : Int)) = false := by simp; omega
              have hi0 : (0 : Int) ≤ (j : Int) := by omega
              have hi1 : (j : Int) < 8 := by omega
              clear hs1 hs2
              by_cases hsame : slotB (S j) = slotB (a.S j)
              · have hne : ((j : Int) != a.k) = true := by simpa using hone.1 hsame
                have hde : decide (slotB (S j) = slotB (a.S j)) = true := decide_eq_true hsame
                have HS' := Lib.hid (fun W h1 h2 => by have := HS.out W h1 h2; rwa [hde] at this)
                clear hsame hde hone hfb hfa
                go_wp2_with fail
                go_quiet ((go_at_call 25; first | exact quiet_more (HS'.out _ (H1.out.drewN _) (H2.out.drewN _)) | exact Calls.quiet_of (HS'.out _ (H1.out.drewN _) (H2.out.drewN _))))
                go_wp2_with fail
                go_roundw
                case rel => exact ⟨j + 1, _, by omega, by go_num, rfl⟩
                case measure => simp [intOf]; omega
              · have hne : ((j : Int) != a.k) = false := by
                  cases hjk : ((j : Int) != a.k) with
                  | false => rfl
                  | true => exact absurd (hone.2 (by simpa using hjk)) hsame
                have hde : decide (slotB (S j) = slotB (a.S j)) = false := decide_eq_false hsame
                have HS' := Lib.hid (fun W h1 h2 => by have := HS.out W h1 h2; rwa [hde] at this)
                clear hsame hde hone hfb hfa
                go_wp2_with fail
                go_quiet ((go_at_call 25; first | exact quiet_more (HS'.out _ (H1.out.drewN _) (H2.out.drewN _)) | exact Calls.quiet_of (HS'.out _ (H1.out.drewN _) (H2.out.drewN _))))
                go_wp2_with fail
                go_roundw
                case rel => exact ⟨j + 1, _, by omega, by go_num, rfl⟩
                case measure => simp [intOf]; omega
            · obtain rfl : j = 8 := by omega
              have hstz' := hstz.below (below_drewN m)
              go_wp2_with fail
              go_roundw
              case rel => exact ⟨k + 1, by omega, by go_num, a.S, _, hGa, hstz'⟩
              case measure => simp [intOf]; omega
      · have he1 : (a.e == 0) = false := by simpa using he
        have he2 : (a.e != 0) = true := by simpa using he
        have hnone := HK.out.none he
        have hk0 : (a.k != 0) = false := by simp [hnone.1]
        have hSS := hnone.2
        have hqe := HQD.out
        try simp only at hqe
        rw [if_pos he] at hqe
        subst hqe
        clear he hnone
        have fita := slotsUp_fits hGa
        have hcmp := sameSlots_any wg (slotsUp S 8) (slotsUp a.S 8) _ _ ob7.src oa7.src (by rw [slotsUp_length]; omega) (by rw [slotsUp_length]; omega) (fun x hx => by have := fit x hx; omega) (fun x hx => by have := fita x hx; omega)
        rw [decide_eq_true (by rw [hSS])] at hcmp
        have HCMP := Lib.hid hcmp
        clear hcmp hSS fit fita S6 S8 h8g h6g ob7 oa7
        go_wp2_with fail
        refine HCMP.out.mono ?_
        rintro e wh ⟨rfl, q4, hq4⟩
        have bh : Below wg.heap.size wg wh := by rw [hq4]; exact below_drewN _
        clear hq4 HCMP
        have hstA := hst9.below bh
        go_wp2_with fail
        refine wp_loop_rounds 1 ?_
        rw [rounds_succ]
        go_wp2_with fail
        go_roundw
        case rel => exact ⟨k + 1, by omega, by go_num, a.S, _, hGa, hstA⟩
        case measure => simp [intOf]; omega
    · go_wp2_with fail
      go_ret
      exact ⟨rfl, hst.bl⟩
end Go.Proofs.Ytfahakmnlmlgcaa
