/-
  No cell of these rows narrows 'for every input' (looked for: loops, veiled, ifaces, maps, wideKeys, modest, calm, conditions, laid).
  DERIVED. THE GIVEN ROWS OF THIS SEAT. 7 by the template 'for every input the law returns true; each argument reads behind the call as it read before'; 0 by the template 'total and deterministic' (their statements: YtfahakmnlmlgcaaTotals.lean).
  GIVEN WITH THE SEED: the statements are not yours to turn. If you find one false, say at which input.
  Laid BY PROGRAM, IN A SANDBOX (cutbox-rows.mjs): the forced cells as the released guide's own fill.sh prints them over the translation 8318a653da1d0ed5… (all of the seat's roots in one cut). By AI agents, Wed Nov 11 2026. No macro, syntax, notation, axiom, sorry.
-/
import Derived.Test.YtfahakmnlmlgcaaChecked
import GoSem.Claim
import GoSem.ClaimJoined
import GoSem.ClaimMapViews
import Derived.JoinedTies
import Derived.KernelRfl
namespace Go.Proofs.Ytfahakmnlmlgcaa
/- THE CELL 'sum', in the pinned program and in every row, IS THE sha256 OF THE DUMP (.gsa) THAT YtfahakmnlmlgcaaProg.lean LOADS. Nothing in Lean hashes anything: it is a label: what it is worth is what the hold of that sum in a sandbox is worth. -/
noncomputable def Try.pinned : Pinned := { name := "ytfahakmnlmlgcaa", sum := "8318a653da1d0ed5c6df0bf467b54001fe4bd1edf62a87c450317d2c41f0203a", checked := Try.checked }
namespace Rows
def none {H : Type} : Left H := { results := [], args := [] }

/-- 'flotillalaw05.ShelfKeeps': WHATEVER THE INPUT: true; the input reads as it did. -/
def shelfKeepsSpec : ChangeSpec := { name := "shelfKeeps", fn := fun _ => fun
  | [d] => { results := [.lit (.bool true)], args := [d] }
  | _ => none }
def shelfKeepsRow : OpenClaim := { program := "ytfahakmnlmlgcaa", sum := "8318a653da1d0ed5c6df0bf467b54001fe4bd1edf62a87c450317d2c41f0203a", func := "flotilla/flotillalaw05.ShelfKeeps", spec := "shelfKeeps", unfollowed := true, recurses := true, apart := false }
def ShelfKeepsSaid : Prop := shelfKeepsRow.holds Try.pinned (OpenSpec.ofChange shelfKeepsSpec)

/-- ITS FALSE NEIGHBOUR: 'it returns false'. Refute it at one input. -/
def shelfKeepsWrong : ChangeSpec := { name := "shelfKeeps", fn := fun _ => fun
  | [d] => { results := [.lit (.bool false)], args := [d] }
  | _ => none }
def ShelfKeepsWrongFalsely : Prop := shelfKeepsRow.holds Try.pinned (OpenSpec.ofChange shelfKeepsWrong)

/-- 'flotillalaw05.ShelfChecks': WHATEVER THE INPUT: true; the input reads as it did. -/
def shelfChecksSpec : ChangeSpec := { name := "shelfChecks", fn := fun _ => fun
  | [d1, d2, d3] => { results := [.lit (.bool true)], args := [d1, d2, d3] }
  | _ => none }
def shelfChecksRow : OpenClaim := { program := "ytfahakmnlmlgcaa", sum := "8318a653da1d0ed5c6df0bf467b54001fe4bd1edf62a87c450317d2c41f0203a", func := "flotilla/flotillalaw05.ShelfChecks", spec := "shelfChecks", unfollowed := true, recurses := true, apart := false }
def ShelfChecksSaid : Prop := shelfChecksRow.holds Try.pinned (OpenSpec.ofChange shelfChecksSpec)

/-- ITS FALSE NEIGHBOUR: 'it returns false'. Refute it at one input. -/
def shelfChecksWrong : ChangeSpec := { name := "shelfChecks", fn := fun _ => fun
  | [d1, d2, d3] => { results := [.lit (.bool false)], args := [d1, d2, d3] }
  | _ => none }
def ShelfChecksWrongFalsely : Prop := shelfChecksRow.holds Try.pinned (OpenSpec.ofChange shelfChecksWrong)

/-- 'flotillalaw05.ShelfOnly': WHATEVER THE INPUT: true; the input reads as it did. -/
def shelfOnlySpec : ChangeSpec := { name := "shelfOnly", fn := fun _ => fun
  | [d] => { results := [.lit (.bool true)], args := [d] }
  | _ => none }
def shelfOnlyRow : OpenClaim := { program := "ytfahakmnlmlgcaa", sum := "8318a653da1d0ed5c6df0bf467b54001fe4bd1edf62a87c450317d2c41f0203a", func := "flotilla/flotillalaw05.ShelfOnly", spec := "shelfOnly", unfollowed := true, recurses := true, apart := false }
def ShelfOnlySaid : Prop := shelfOnlyRow.holds Try.pinned (OpenSpec.ofChange shelfOnlySpec)

/-- ITS FALSE NEIGHBOUR: 'it returns false'. Refute it at one input. -/
def shelfOnlyWrong : ChangeSpec := { name := "shelfOnly", fn := fun _ => fun
  | [d] => { results := [.lit (.bool false)], args := [d] }
  | _ => none }
def ShelfOnlyWrongFalsely : Prop := shelfOnlyRow.holds Try.pinned (OpenSpec.ofChange shelfOnlyWrong)

/-- 'flotillalaw05.ShelfWrites': WHATEVER THE INPUT: true; the input reads as it did. -/
def shelfWritesSpec : ChangeSpec := { name := "shelfWrites", fn := fun _ => fun
  | [d] => { results := [.lit (.bool true)], args := [d] }
  | _ => none }
def shelfWritesRow : OpenClaim := { program := "ytfahakmnlmlgcaa", sum := "8318a653da1d0ed5c6df0bf467b54001fe4bd1edf62a87c450317d2c41f0203a", func := "flotilla/flotillalaw05.ShelfWrites", spec := "shelfWrites", unfollowed := true, recurses := true, apart := false }
def ShelfWritesSaid : Prop := shelfWritesRow.holds Try.pinned (OpenSpec.ofChange shelfWritesSpec)

/-- ITS FALSE NEIGHBOUR: 'it returns false'. Refute it at one input. -/
def shelfWritesWrong : ChangeSpec := { name := "shelfWrites", fn := fun _ => fun
  | [d] => { results := [.lit (.bool false)], args := [d] }
  | _ => none }
def ShelfWritesWrongFalsely : Prop := shelfWritesRow.holds Try.pinned (OpenSpec.ofChange shelfWritesWrong)

/-- 'flotillalaw05.ShelfSame': WHATEVER THE INPUT: true; the input reads as it did. -/
def shelfSameSpec : ChangeSpec := { name := "shelfSame", fn := fun _ => fun
  | [d1, d2] => { results := [.lit (.bool true)], args := [d1, d2] }
  | _ => none }
def shelfSameRow : OpenClaim := { program := "ytfahakmnlmlgcaa", sum := "8318a653da1d0ed5c6df0bf467b54001fe4bd1edf62a87c450317d2c41f0203a", func := "flotilla/flotillalaw05.ShelfSame", spec := "shelfSame", unfollowed := true, recurses := true, apart := false }
def ShelfSameSaid : Prop := shelfSameRow.holds Try.pinned (OpenSpec.ofChange shelfSameSpec)

/-- ITS FALSE NEIGHBOUR: 'it returns false'. Refute it at one input. -/
def shelfSameWrong : ChangeSpec := { name := "shelfSame", fn := fun _ => fun
  | [d1, d2] => { results := [.lit (.bool false)], args := [d1, d2] }
  | _ => none }
def ShelfSameWrongFalsely : Prop := shelfSameRow.holds Try.pinned (OpenSpec.ofChange shelfSameWrong)

/-- 'flotillalaw05.ShelfForms': WHATEVER THE INPUT: true; the input reads as it did. -/
def shelfFormsSpec : ChangeSpec := { name := "shelfForms", fn := fun _ => fun
  | [d1, d2] => { results := [.lit (.bool true)], args := [d1, d2] }
  | _ => none }
def shelfFormsRow : OpenClaim := { program := "ytfahakmnlmlgcaa", sum := "8318a653da1d0ed5c6df0bf467b54001fe4bd1edf62a87c450317d2c41f0203a", func := "flotilla/flotillalaw05.ShelfForms", spec := "shelfForms", unfollowed := true, recurses := true, apart := false }
def ShelfFormsSaid : Prop := shelfFormsRow.holds Try.pinned (OpenSpec.ofChange shelfFormsSpec)

/-- ITS FALSE NEIGHBOUR: 'it returns false'. Refute it at one input. -/
def shelfFormsWrong : ChangeSpec := { name := "shelfForms", fn := fun _ => fun
  | [d1, d2] => { results := [.lit (.bool false)], args := [d1, d2] }
  | _ => none }
def ShelfFormsWrongFalsely : Prop := shelfFormsRow.holds Try.pinned (OpenSpec.ofChange shelfFormsWrong)

/-- 'flotillalaw05.ShelfBack': WHATEVER THE INPUT: true; the input reads as it did. -/
def shelfBackSpec : ChangeSpec := { name := "shelfBack", fn := fun _ => fun
  | [d1, d2] => { results := [.lit (.bool true)], args := [d1, d2] }
  | _ => none }
def shelfBackRow : OpenClaim := { program := "ytfahakmnlmlgcaa", sum := "8318a653da1d0ed5c6df0bf467b54001fe4bd1edf62a87c450317d2c41f0203a", func := "flotilla/flotillalaw05.ShelfBack", spec := "shelfBack", unfollowed := true, recurses := true, apart := false }
def ShelfBackSaid : Prop := shelfBackRow.holds Try.pinned (OpenSpec.ofChange shelfBackSpec)

/-- ITS FALSE NEIGHBOUR: 'it returns false'. Refute it at one input. -/
def shelfBackWrong : ChangeSpec := { name := "shelfBack", fn := fun _ => fun
  | [d1, d2] => { results := [.lit (.bool false)], args := [d1, d2] }
  | _ => none }
def ShelfBackWrongFalsely : Prop := shelfBackRow.holds Try.pinned (OpenSpec.ofChange shelfBackWrong)

/- THE SECOND FORM. 'bulk': how many values and letters a reading holds, each counted each time it is reached (what is shared counts as often as it is met; a slice's spare places count too). A statement '..UptoSaid' is the law's where the arguments, and the package variables that the reading takes, are together of bulk at most 1048576: NARROWER than '..Said'. Prove '..Said' where nothing that the law and all that it calls make is longer than what came in: it says more and counts as full. Else prove '..UptoSaid'. A law counts once. -/
mutual
def uptoBulk {H : Type} : DataW H → Nat
  | .lit (.string bytes) => bytes.length + 1
  | .lit _ => 1
  | .nil => 1
  | .ptr d => uptoBulk d + 1
  | .slice elems spare => uptoBulkAll elems + uptoBulkAll spare + 1
  | .agg parts => uptoBulkAll parts + 1
  | .iface _ d => uptoBulk d + 1
  | .map entries => uptoBulkEntries entries + 1
  | .held _ => 1
def uptoBulkAll {H : Type} : List (DataW H) → Nat
  | [] => 0
  | d :: r => uptoBulk d + uptoBulkAll r
def uptoBulkEntries {H : Type} : List (Lit × DataW H) → Nat
  | [] => 0
  | x :: r => uptoBulkEntry x + uptoBulkEntries r
def uptoBulkEntry {H : Type} : Lit × DataW H → Nat
  | (.string bytes, d) => bytes.length + uptoBulk d + 1
  | (_, d) => uptoBulk d + 1
 end
def uptoSmall : (H : Type) → List (DataW H) → Bool := fun _ ds => decide (uptoBulkAll ds ≤ 1048576)
def OpenSpec.upto (s : _root_.Go.ChangeSpec) : _root_.Go.OpenSpec := { _root_.Go.OpenSpec.ofChange s with cond := some uptoSmall }

/-- 'flotillalaw05.ShelfKeeps', WHERE WHAT IT READS IS OF BULK AT MOST 1048576: true; the input reads as it did. -/
def shelfKeepsUptoRow : OpenClaim := { program := "ytfahakmnlmlgcaa", sum := "8318a653da1d0ed5c6df0bf467b54001fe4bd1edf62a87c450317d2c41f0203a", func := "flotilla/flotillalaw05.ShelfKeeps", spec := "shelfKeeps", unfollowed := true, recurses := true, apart := false, narrowed := true }
def ShelfKeepsUptoSaid : Prop := shelfKeepsUptoRow.holds Try.pinned (OpenSpec.upto shelfKeepsSpec)

/-- 'flotillalaw05.ShelfChecks', WHERE WHAT IT READS IS OF BULK AT MOST 1048576: true; the input reads as it did. -/
def shelfChecksUptoRow : OpenClaim := { program := "ytfahakmnlmlgcaa", sum := "8318a653da1d0ed5c6df0bf467b54001fe4bd1edf62a87c450317d2c41f0203a", func := "flotilla/flotillalaw05.ShelfChecks", spec := "shelfChecks", unfollowed := true, recurses := true, apart := false, narrowed := true }
def ShelfChecksUptoSaid : Prop := shelfChecksUptoRow.holds Try.pinned (OpenSpec.upto shelfChecksSpec)

/-- 'flotillalaw05.ShelfOnly', WHERE WHAT IT READS IS OF BULK AT MOST 1048576: true; the input reads as it did. -/
def shelfOnlyUptoRow : OpenClaim := { program := "ytfahakmnlmlgcaa", sum := "8318a653da1d0ed5c6df0bf467b54001fe4bd1edf62a87c450317d2c41f0203a", func := "flotilla/flotillalaw05.ShelfOnly", spec := "shelfOnly", unfollowed := true, recurses := true, apart := false, narrowed := true }
def ShelfOnlyUptoSaid : Prop := shelfOnlyUptoRow.holds Try.pinned (OpenSpec.upto shelfOnlySpec)

/-- 'flotillalaw05.ShelfWrites', WHERE WHAT IT READS IS OF BULK AT MOST 1048576: true; the input reads as it did. -/
def shelfWritesUptoRow : OpenClaim := { program := "ytfahakmnlmlgcaa", sum := "8318a653da1d0ed5c6df0bf467b54001fe4bd1edf62a87c450317d2c41f0203a", func := "flotilla/flotillalaw05.ShelfWrites", spec := "shelfWrites", unfollowed := true, recurses := true, apart := false, narrowed := true }
def ShelfWritesUptoSaid : Prop := shelfWritesUptoRow.holds Try.pinned (OpenSpec.upto shelfWritesSpec)

/-- 'flotillalaw05.ShelfSame', WHERE WHAT IT READS IS OF BULK AT MOST 1048576: true; the input reads as it did. -/
def shelfSameUptoRow : OpenClaim := { program := "ytfahakmnlmlgcaa", sum := "8318a653da1d0ed5c6df0bf467b54001fe4bd1edf62a87c450317d2c41f0203a", func := "flotilla/flotillalaw05.ShelfSame", spec := "shelfSame", unfollowed := true, recurses := true, apart := false, narrowed := true }
def ShelfSameUptoSaid : Prop := shelfSameUptoRow.holds Try.pinned (OpenSpec.upto shelfSameSpec)

/-- 'flotillalaw05.ShelfForms', WHERE WHAT IT READS IS OF BULK AT MOST 1048576: true; the input reads as it did. -/
def shelfFormsUptoRow : OpenClaim := { program := "ytfahakmnlmlgcaa", sum := "8318a653da1d0ed5c6df0bf467b54001fe4bd1edf62a87c450317d2c41f0203a", func := "flotilla/flotillalaw05.ShelfForms", spec := "shelfForms", unfollowed := true, recurses := true, apart := false, narrowed := true }
def ShelfFormsUptoSaid : Prop := shelfFormsUptoRow.holds Try.pinned (OpenSpec.upto shelfFormsSpec)

/-- 'flotillalaw05.ShelfBack', WHERE WHAT IT READS IS OF BULK AT MOST 1048576: true; the input reads as it did. -/
def shelfBackUptoRow : OpenClaim := { program := "ytfahakmnlmlgcaa", sum := "8318a653da1d0ed5c6df0bf467b54001fe4bd1edf62a87c450317d2c41f0203a", func := "flotilla/flotillalaw05.ShelfBack", spec := "shelfBack", unfollowed := true, recurses := true, apart := false, narrowed := true }
def ShelfBackUptoSaid : Prop := shelfBackUptoRow.holds Try.pinned (OpenSpec.upto shelfBackSpec)

end Rows
end Go.Proofs.Ytfahakmnlmlgcaa
