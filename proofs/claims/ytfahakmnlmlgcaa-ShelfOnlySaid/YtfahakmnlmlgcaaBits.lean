/-
  Contracts of package bits' Writer: what is written, byte by byte.
-/
import Derived.Test.YtfahakmnlmlgcaaProg
import Derived.Test.YtfahakmnlmlgcaaBase
import Derived.WalkLawsBesides
import Derived.Lib.AppendStr
import Derived.Lib.Hide
import Derived.Maps.AppendAt
namespace Go.Proofs.Ytfahakmnlmlgcaa
open Go.RowKit Go.Lib

/-- A number in groups of seven bits. -/
def varint (x : Nat) : List UInt8 := if h : 127 < x then UInt8.ofNat (x % 128 + 128) :: varint (x / 128) else [UInt8.ofNat x]
termination_by x
decreasing_by omega

/-- The writer at block g has written l. -/
def WriterAt (F : Nat → Prop) (w : World) (g : Nat) (l : List UInt8) (bad : Bool) : Prop :=
  F g ∧ ∃ A c, w.heap[g]? = some (.cells #[.slice A l.length c, .bool bad] 107 (0, 0)) ∧ Row F w 5 1 (.slice A l.length c) l.length (bytesV l)

namespace WriterAt
variable {F M G : Nat → Prop} {w w' : World} {g : Nat} {l : List UInt8} {bad : Bool}
theorem keep (h : WriterAt F w g l bad) (k : Keep M w w') (hm : ∀ k, F k → ¬ M k) : WriterAt F w' g l bad := by
  obtain ⟨h0, A, c, h1, h2⟩ := h
  exact ⟨h0, A, c, k.heap h1 (hm g h0), h2.keep k hm⟩
theorem lt (h : WriterAt F w g l bad) : g < w.heap.size := by
  obtain ⟨h0, A, c, h1, h2⟩ := h
  exact lt_of_heap h1
theorem mono (h : WriterAt F w g l bad) (hm : ∀ b, F b → b < w.heap.size → G b) : WriterAt G w g l bad := by
  have hl := h.lt
  obtain ⟨h0, A, c, h1, h2⟩ := h
  exact ⟨hm g h0 hl, A, c, h1, h2.mono hm⟩
/-- What was appended is stored back. -/
theorem put {F' : Nat → Prop} {wr w1 : World} {A c v} {n : Nat} {l2 : List UInt8} (hn : n = l2.length) (hk : Keep F w wr) (hg : F g) (h1 : w1.heap[g]? = some (.cells #[v, .bool bad] 107 (0, 0)))
    {row : Option Nat} (hgr : wr.grownBy w1 row) (hr : ∀ k, row = some k → F k ∨ w.heap.size ≤ k) (hrow : Row F' w1 5 1 (.slice A n c) n (bytesV l2)) (hF : ∀ k, F' k → Grow F w w1 k) :
    WriterAt (Grow F w (w1.setCell ⟨g, 0, none⟩ (.slice A n c))) (w1.setCell ⟨g, 0, none⟩ (.slice A n c)) g l2 bad ∧ Keep F w (w1.setCell ⟨g, 0, none⟩ (.slice A n c)) := by
  subst hn
  refine ⟨⟨.inl hg, A, c, ?_, ?_⟩, (hk.grown hgr hr).setCell (.inl hg) _⟩
  · rw [heap_setCell h1]; rfl
  · have hne := hrow.ne_block h1 (by decide)
    refine ⟨(Keep.refl (fun k => k = g) w1 |>.setCell (a := ⟨g, 0, none⟩) (.inl rfl) _).row hrow.1 (fun k hk e => hne (e ▸ hk)), fun k hk => ?_⟩
    exact Grow.up (by simp [World.setCell]) k (hF k (hrow.2 k hk))
end WriterAt

theorem new_writer (w : World) : Calls Try.prog 26 #[] w fun e w' => e = .returned (.pointer (some ⟨w.heap.size, 0, none⟩)) ∧ w' = w.alloc (.cells #[.slice none 0 0, .bool false] 107 (0, 0)) := by
  go_enter Try.func26, Try.ntmps26
  go_wp2
  go_ret
  exact ⟨rfl, rfl⟩

def In64 (x : Nat) : Prop := x < 18446744073709551616

theorem Try.infoByte : (Try.prog.info? 5).map (fun i => (i.zero, i.size, i.bytes)) = some (some (.int .u8 0), 1, 1) := by kernel_rfl

theorem varint_len (k : Nat) : ∀ x, x < 128 ^ (k + 1) → 0 < (varint x).length ∧ (varint x).length ≤ k + 1 := by
  induction k with
  | zero =>
    intro x hx
    rw [varint, dif_neg (by simp at hx; omega)]
    simp
  | succ k ih =>
    intro x hx
    rw [varint]
    split
    · have := ih (x / 128) (by rw [Nat.div_lt_iff_lt_mul (by decide)]; simpa [Nat.pow_succ] using hx)
      simp; omega
    · simp
theorem varint_len10 {x : Nat} (h : In64 x) : 0 < (varint x).length ∧ (varint x).length ≤ 10 := varint_len 9 x (Nat.lt_trans h (by decide))

theorem or128_fin : ∀ y : Fin 256, bits BinOp.or IntKind.u8 (y.val : Int) 128 = ((y.val % 128 + 128 : Nat) : Int) := by decide +kernel
theorem or128 (y : Nat) : bits BinOp.or IntKind.u8 ((y : Int) % 256) 128 = ((UInt8.ofNat (y % 128 + 128)).toNat : Int) := by
  have h := or128_fin ⟨y % 256, Nat.mod_lt _ (by decide)⟩
  have e : ((y : Int) % 256) = ((y % 256 : Nat) : Int) := by omega
  have e2 : (UInt8.ofNat (y % 128 + 128)).toNat = y % 128 + 128 := by rw [UInt8.toNat_ofNat']; omega
  rw [e, e2, h]
  simp only
  omega
theorem ofNat_small {y : Nat} (h : ¬ 127 < y) : (UInt8.ofNat y).toNat = y := by rw [UInt8.toNat_ofNat']; omega

set_option maxRecDepth 100000 in
theorem groups_any (F : Nat → Prop) (w : World) (g : Nat) (l : List UInt8) (x : Nat) (h : WriterAt F w g l false) (hx : In64 x) (hl : l.length ≤ 1000000000) :
    Calls Try.prog 58 #[.pointer (some ⟨g, 0, none⟩), .int .u64 x] w fun e w' => e = .returned (.tuple #[]) ∧ WriterAt (Grow F w w') w' g (l ++ varint x) false ∧ Keep F w w' := by
  obtain ⟨i0, hi, hz0, hz1, hz2⟩ := info_parts Try.infoByte
  go_enter Try.func58, Try.ntmps58
  go_wp2_with fail
  go_loopw [1] (fun u wr => ∃ (y : Nat) (l1 : List UInt8), u = .int .u64 y ∧ In64 y ∧ l ++ varint x = l1 ++ varint y ∧ WriterAt (Grow F w wr) wr g l1 false ∧ Keep F w wr) (fun u _ => (intOf u).toNat)
  case atStart => exact ⟨x, l, rfl, hx, rfl, h.mono (fun b hb _ => .inl hb), Keep.refl _ _⟩
  case round =>
    obtain ⟨y, l1, rfl, hy, he, hw, hk⟩ := hrel
    obtain ⟨hg0, A, c, h1, h2⟩ := hw
    have ⟨hc, hf⟩ := cells_of_heap h1
    have hl1 : l1.length ≤ 1000000010 := by
      have e := congrArg List.length he
      have := varint_len10 hx
      have := varint_len10 hy
      simp only [List.length_append] at e; omega
    have he := Lib.hid he
    have hgF : F g := h.1
    have hgl := lt_of_heap h1
    by_cases hlt : 127 < y
    · go_wp2_with (first | (at_builtin; refine wpList_app rfl _ _ 49 rfl 5 i0 (.int .u8 0) 1 1 Try.underlying49 hi hz0 hz1 hz2 rfl (by decide) (h2.alloc _) (Src.one _ _ _ rfl) rfl rfl ?c3 ?c4 ?_))
      case c3 => unfold maxLen; omega
      case c4 => omega
      intro A' c' w1 hown hgr
      have hg1 : w1.heap[g]? = some (.cells #[.slice A l1.length c, .bool false] 107 (0, 0)) := by
        rw [hgr.block g (by simp; omega) (fun e => h2.ne_block h1 (by decide) e.symm), Below.heap_alloc _ _ _ hgl]; exact h1
      have ⟨hc1, hf1⟩ := cells_of_heap hg1
      go_wp2
      go_roundw
      case rel =>
        have hp := WriterAt.put (n := l1.length + 1) (F := F) (w := w) (l2 := l1 ++ [UInt8.ofNat (y % 128 + 128)]) (by simp) (hk.alloc _) hgF hg1 hgr
          (fun k hk' => (h2.2 k hk').imp id (fun h => h.1)) (by rw [bytesV_append]; simpa [bytesV, or128] using hown) (Grow.sub (Grow.up (by have := hgr.size; simp at this; omega)) (by have := hk.size; simp; omega) (Nat.le_refl _))
        refine ⟨y / 128, l1 ++ [UInt8.ofNat (y % 128 + 128)], by simp, by unfold In64 at hy ⊢; omega, ?_, hp.1, hp.2⟩
        rw [he.out, varint, dif_pos hlt]; simp
      case measure => simp [intOf]; omega
    · go_wp2_with (first | (at_builtin; refine wpList_app rfl _ _ 49 rfl 5 i0 (.int .u8 0) 1 1 Try.underlying49 hi hz0 hz1 hz2 rfl (by decide) (h2.alloc _) (Src.one _ _ _ rfl) rfl rfl ?c3 ?c4 ?_))
      case c3 => unfold maxLen; omega
      case c4 => omega
      intro A' c' w1 hown hgr
      have hg1 : w1.heap[g]? = some (.cells #[.slice A l1.length c, .bool false] 107 (0, 0)) := by
        rw [hgr.block g (by simp; omega) (fun e => h2.ne_block h1 (by decide) e.symm), Below.heap_alloc _ _ _ hgl]; exact h1
      have ⟨hc1, hf1⟩ := cells_of_heap hg1
      go_wp2
      go_end0
      have hp := WriterAt.put (n := l1.length + 1) (F := F) (w := w) (l2 := l1 ++ [UInt8.ofNat y]) (by simp) (hk.alloc _) hgF hg1 hgr
          (fun k hk' => (h2.2 k hk').imp id (fun h => h.1)) (by rw [bytesV_append]; simpa [bytesV, ofNat_small hlt] using hown) (Grow.sub (Grow.up (by have := hgr.size; simp at this; omega)) (by have := hk.size; simp; omega) (Nat.le_refl _))
      refine ⟨rfl, ?_, hp.2⟩
      rw [he.out, varint, dif_neg hlt]; exact hp.1

theorem num_neg (F : Nat → Prop) (w : World) (g : Nat) (l : List UInt8) (bad : Bool) (n : Int) (h : WriterAt F w g l bad) (hn : n < 0) :
    Calls Try.prog 28 #[.pointer (some ⟨g, 0, none⟩), .int .i64 n] w fun e w' => e = .returned (.tuple #[]) ∧ w' = w.setCell ⟨g, 1, none⟩ (.bool true) := by
  obtain ⟨h0, A, c, h1, h2⟩ := h
  have ⟨hc, hf⟩ := cells_of_heap h1
  have hc2 : ((w.setCell ⟨g, 1, none⟩ (.bool true)).cell? ⟨g, 1, none⟩) = some (.bool true) := by
    simp [World.cell?, heap_setCell h1]
  go_enter Try.func28, Try.ntmps28
  go_wp2
  go_end0
  exact ⟨rfl, rfl⟩

theorem num_bad (F : Nat → Prop) (w : World) (g : Nat) (l : List UInt8) (n : Int) (h : WriterAt F w g l true) (hn : 0 ≤ n) :
    Calls Try.prog 28 #[.pointer (some ⟨g, 0, none⟩), .int .i64 n] w fun e w' => e = .returned (.tuple #[]) ∧ w' = w := by
  obtain ⟨h0, A, c, h1, h2⟩ := h
  have ⟨hc, hf⟩ := cells_of_heap h1
  go_enter Try.func28, Try.ntmps28
  go_wp2
  go_end0
  exact ⟨rfl, rfl⟩

theorem num_any (F : Nat → Prop) (w : World) (g : Nat) (l : List UInt8) (n : Nat) (h : WriterAt F w g l false) (hn : n ≤ 9223372036854775807) (hl : l.length ≤ 1000000000) :
    Calls Try.prog 28 #[.pointer (some ⟨g, 0, none⟩), .int .i64 n] w fun e w' => e = .returned (.tuple #[]) ∧ WriterAt (Grow F w w') w' g (l ++ varint n) false ∧ Keep F w w' := by
  have hh := h
  obtain ⟨h0, A, c, h1, h2⟩ := h
  have ⟨hc, hf⟩ := cells_of_heap h1
  go_enter Try.func28, Try.ntmps28
  go_wp2_with (go_at_call 58; refine (groups_any F w g l n hh ?h1 ?h2).mono ?_)
  case h1 => unfold In64; omega
  case h2 => exact hl
  rintro e w1 ⟨rfl, hw, hk⟩
  go_wp2
  go_end0
  exact ⟨rfl, hw, hk⟩

theorem text_bad (F : Nat → Prop) (w : World) (g : Nat) (l : List UInt8) (s : ByteArray) (h : WriterAt F w g l true) :
    Calls Try.prog 61 #[.pointer (some ⟨g, 0, none⟩), .string s] w fun e w' => e = .returned (.tuple #[]) ∧ w' = w := by
  obtain ⟨h0, A, c, h1, h2⟩ := h
  have ⟨hc, hf⟩ := cells_of_heap h1
  go_enter Try.func61, Try.ntmps61
  go_wp2
  go_end0
  exact ⟨rfl, rfl⟩

theorem strCells_bytes (s : ByteArray) : strCells s = bytesV s.data.toList := rfl

set_option maxRecDepth 100000 in
theorem text_any (F : Nat → Prop) (w : World) (g : Nat) (l : List UInt8) (s : ByteArray) (h : WriterAt F w g l false) (hs : s.size ≤ 1000000000) (hl : l.length ≤ 1000000000) :
    Calls Try.prog 61 #[.pointer (some ⟨g, 0, none⟩), .string s] w fun e w' => e = .returned (.tuple #[]) ∧ WriterAt (Grow F w w') w' g (l ++ varint s.size ++ s.data.toList) false ∧ Keep F w w' := by
  have hh := h
  obtain ⟨i0, hi, hz0, hz1, hz2⟩ := info_parts Try.infoByte
  obtain ⟨h0, A, c, h1, h2⟩ := h
  have ⟨hc, hf⟩ := cells_of_heap h1
  go_enter Try.func61, Try.ntmps61
  go_wp2_with (go_at_call 58; refine (groups_any F w g l s.size hh ?h1 ?h2).mono ?_)
  case h1 => unfold In64; omega
  case h2 => exact hl
  clear hc hf
  rintro e w1 ⟨rfl, hw, hk⟩
  obtain ⟨l1, hl1⟩ : ∃ l1, l ++ varint s.size = l1 := ⟨_, rfl⟩
  have hlen : l1.length ≤ 1000000010 := by
    have := varint_len10 (x := s.size) (by unfold In64; omega)
    rw [← hl1, List.length_append]; omega
  rw [hl1] at hw
  have hl1 := Lib.hid hl1
  obtain ⟨_, A1, c1, h3, h4⟩ := hw
  have hgl := lt_of_heap h3
  have ⟨hc, hf⟩ := cells_of_heap h3
  go_wp2_with (first | (at_builtin; refine wpList_app_str rfl _ _ 49 9 rfl 5 i0 Try.underlying49 Try.underlying9 hi hz0 hz1 hz2 h4 s rfl rfl ?c3 ?_))
  case c3 => omega
  intro A' c' w2 hown hgr
  have hg1 : w2.heap[g]? = some (.cells #[.slice A1 l1.length c1, .bool false] 107 (0, 0)) := by
    rw [hgr.block g hgl (fun e => h4.ne_block h3 (by decide) e.symm)]; exact h3
  have ⟨hc1, hf1⟩ := cells_of_heap hg1
  go_wp2
  go_end0
  have hp := WriterAt.put (n := l1.length + s.size) (F := F) (w := w) (l2 := l1 ++ s.data.toList) (by simp) hk h0 hg1 hgr
          (fun k hk' => (h4.2 k hk').imp id (fun h => h.1)) (by rw [bytesV_append, ← strCells_bytes]; exact hown) (Grow.sub (Grow.up hgr.size) hk.size (Nat.le_refl _))
  rw [hl1.out]
  exact ⟨rfl, hp.1, hp.2⟩

theorem done_bad (F : Nat → Prop) (w : World) (g : Nat) (l : List UInt8) (h : WriterAt F w g l true) :
    Calls Try.prog 35 #[.pointer (some ⟨g, 0, none⟩)] w fun e w' => e = .returned (.tuple #[.slice none 0 0, .int .i64 1]) ∧ w' = w := by
  obtain ⟨h0, A, c, h1, h2⟩ := h
  have ⟨hc, hf⟩ := cells_of_heap h1
  go_enter Try.func35, Try.ntmps35
  go_wp2
  go_ret2
  exact ⟨rfl, rfl⟩

theorem bytesV_one (l : List UInt8) : ∀ u ∈ bytesV l, u.oneCell' = true := by
  intro u hu
  simp only [bytesV, List.mem_map] at hu
  obtain ⟨b, _, rfl⟩ := hu
  rfl

theorem done_any (F : Nat → Prop) (w : World) (g : Nat) (l : List UInt8) (h : WriterAt F w g l false) (hl : l.length ≤ 2000000000) :
    Calls Try.prog 35 #[.pointer (some ⟨g, 0, none⟩)] w fun e w' => ∃ v, e = .returned (.tuple #[v, .int .i64 0]) ∧ Row (Made w w') w' 5 1 v l.length (bytesV l) ∧ v ≠ .slice none 0 0 ∧ Below w.heap.size w w' := by
  obtain ⟨i0, hi, hz0, hz1, hz2⟩ := info_parts Try.infoByte
  obtain ⟨h0, A, c, h1, h2⟩ := h
  have ⟨hc, hf⟩ := cells_of_heap h1
  have hgl := lt_of_heap h1
  go_enter Try.func35, Try.ntmps35
  go_wp2_with (with_reducible refine wpList_make_full w rfl _ _ 49 rfl w.heap.size 5 i0 (.int .u8 0) 1 Try.underlying49 hi hz0 hz1 .i64 .i64 _ _ l.length rfl rfl rfl rfl ?b2 ?b3 ?b4 ?_)
  case b2 => rw [hz2]; omega
  case b3 => unfold maxLen; omega
  case b4 => exact Nat.le_refl _
  intro w1 hown hgr
  have hr1 := Row.made hown
  have hg1 := (hgr.block g hgl (by simp)).trans h1
  have hk1 : Keep (fun _ => False) w w1 := (Keep.refl _ w).grown hgr (by simp)
  have h3 : Src w1 1 _ _ _ := Src.of_row (h2.keep hk1 (fun _ _ h => h)) (bytesV_one l)
  have ⟨hc1, hf1⟩ := cells_of_heap hg1
  go_wp2_with (with_reducible refine wpList_cp rfl _ _ 49 49 rfl 5 Try.underlying49 (by kernel_rfl) hr1 h3 rfl rfl ?_)
  intro w2 hr2 hgr2
  go_wp2
  go_ret2
  have hk2 := hk1.grown hgr2 (by intro k hk; simp [Value.ownBlock] at hk; omega)
  exact ⟨_, rfl, hr2.mono (fun b hb _ => ⟨hb.1, by have := hgr2.size; have := hb.2; omega⟩), by simp, hk2.below (fun _ _ h => h)⟩
end Go.Proofs.Ytfahakmnlmlgcaa
