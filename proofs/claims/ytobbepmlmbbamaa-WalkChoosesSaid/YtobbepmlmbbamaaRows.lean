/-
  No cell of these rows narrows 'for every input' (looked for: loops, veiled, ifaces, maps, wideKeys, modest, calm, conditions, laid).
  DERIVED. THE GIVEN ROWS OF THIS SEAT. 11 by the template 'for every input the law returns true; each argument reads behind the call as it read before'; 0 by the template 'total and deterministic' (their statements: YtobbepmlmbbamaaTotals.lean).
  GIVEN WITH THE SEED: the statements are not yours to turn. If you find one false, say at which input.
  Laid BY PROGRAM, IN A SANDBOX (cutbox-rows.mjs): the forced cells as the released guide's own fill.sh prints them over the translation 0a11253632a1b05a… (all of the seat's roots in one cut). By AI agents, Wed Nov 11 2026. No macro, syntax, notation, axiom, sorry.
-/
import Derived.Test.YtobbepmlmbbamaaChecked
import GoSem.Claim
import GoSem.ClaimJoined
import GoSem.ClaimMapViews
import Derived.JoinedTies
import Derived.KernelRfl
namespace Go.Proofs.Ytobbepmlmbbamaa
/- THE CELL 'sum', in the pinned program and in every row, IS THE sha256 OF THE DUMP (.gsa) THAT YtobbepmlmbbamaaProg.lean LOADS. Nothing in Lean hashes anything: it is a label: what it is worth is what the hold of that sum in a sandbox is worth. -/
noncomputable def Try.pinned : Pinned := { name := "ytobbepmlmbbamaa", sum := "0a11253632a1b05acffefba244799c8cb5a500c5d10cc5ba173cb14aafb82d35", checked := Try.checked }
namespace Rows
def none {H : Type} : Left H := { results := [], args := [] }

/-- 'unravellaw11.WalkChooses': WHATEVER THE INPUT: true; the input reads as it did. -/
def walkChoosesSpec : ChangeSpec := { name := "walkChooses", fn := fun _ => fun
  | [d1, d2, d3] => { results := [.lit (.bool true)], args := [d1, d2, d3] }
  | _ => none }
def walkChoosesRow : OpenClaim := { program := "ytobbepmlmbbamaa", sum := "0a11253632a1b05acffefba244799c8cb5a500c5d10cc5ba173cb14aafb82d35", func := "unravel/unravellaw11.WalkChooses", spec := "walkChooses", unfollowed := true, recurses := true, apart := false }
def WalkChoosesSaid : Prop := walkChoosesRow.holds Try.pinned (OpenSpec.ofChange walkChoosesSpec)

/-- ITS FALSE NEIGHBOUR: 'it returns false'. Refute it at one input. -/
def walkChoosesWrong : ChangeSpec := { name := "walkChooses", fn := fun _ => fun
  | [d1, d2, d3] => { results := [.lit (.bool false)], args := [d1, d2, d3] }
  | _ => none }
def WalkChoosesWrongFalsely : Prop := walkChoosesRow.holds Try.pinned (OpenSpec.ofChange walkChoosesWrong)

/-- 'unravellaw08.MovesApply': WHATEVER THE INPUT: true; the input reads as it did. -/
def movesApplySpec : ChangeSpec := { name := "movesApply", fn := fun _ => fun
  | [d1, d2] => { results := [.lit (.bool true)], args := [d1, d2] }
  | _ => none }
def movesApplyRow : OpenClaim := { program := "ytobbepmlmbbamaa", sum := "0a11253632a1b05acffefba244799c8cb5a500c5d10cc5ba173cb14aafb82d35", func := "unravel/unravellaw08.MovesApply", spec := "movesApply", unfollowed := true, recurses := true, apart := false }
def MovesApplySaid : Prop := movesApplyRow.holds Try.pinned (OpenSpec.ofChange movesApplySpec)

/-- ITS FALSE NEIGHBOUR: 'it returns false'. Refute it at one input. -/
def movesApplyWrong : ChangeSpec := { name := "movesApply", fn := fun _ => fun
  | [d1, d2] => { results := [.lit (.bool false)], args := [d1, d2] }
  | _ => none }
def MovesApplyWrongFalsely : Prop := movesApplyRow.holds Try.pinned (OpenSpec.ofChange movesApplyWrong)

/-- 'unravellaw08.MovesValid': WHATEVER THE INPUT: true; the input reads as it did. -/
def movesValidSpec : ChangeSpec := { name := "movesValid", fn := fun _ => fun
  | [d1, d2] => { results := [.lit (.bool true)], args := [d1, d2] }
  | _ => none }
def movesValidRow : OpenClaim := { program := "ytobbepmlmbbamaa", sum := "0a11253632a1b05acffefba244799c8cb5a500c5d10cc5ba173cb14aafb82d35", func := "unravel/unravellaw08.MovesValid", spec := "movesValid", unfollowed := true, recurses := true, apart := false }
def MovesValidSaid : Prop := movesValidRow.holds Try.pinned (OpenSpec.ofChange movesValidSpec)

/-- ITS FALSE NEIGHBOUR: 'it returns false'. Refute it at one input. -/
def movesValidWrong : ChangeSpec := { name := "movesValid", fn := fun _ => fun
  | [d1, d2] => { results := [.lit (.bool false)], args := [d1, d2] }
  | _ => none }
def MovesValidWrongFalsely : Prop := movesValidRow.holds Try.pinned (OpenSpec.ofChange movesValidWrong)

/-- 'unravellaw08.MovesSigns': WHATEVER THE INPUT: true; the input reads as it did. -/
def movesSignsSpec : ChangeSpec := { name := "movesSigns", fn := fun _ => fun
  | [d1, d2] => { results := [.lit (.bool true)], args := [d1, d2] }
  | _ => none }
def movesSignsRow : OpenClaim := { program := "ytobbepmlmbbamaa", sum := "0a11253632a1b05acffefba244799c8cb5a500c5d10cc5ba173cb14aafb82d35", func := "unravel/unravellaw08.MovesSigns", spec := "movesSigns", unfollowed := true, recurses := true, apart := false }
def MovesSignsSaid : Prop := movesSignsRow.holds Try.pinned (OpenSpec.ofChange movesSignsSpec)

/-- ITS FALSE NEIGHBOUR: 'it returns false'. Refute it at one input. -/
def movesSignsWrong : ChangeSpec := { name := "movesSigns", fn := fun _ => fun
  | [d1, d2] => { results := [.lit (.bool false)], args := [d1, d2] }
  | _ => none }
def MovesSignsWrongFalsely : Prop := movesSignsRow.holds Try.pinned (OpenSpec.ofChange movesSignsWrong)

/-- 'unravellaw08.MovesFull': WHATEVER THE INPUT: true; the input reads as it did. -/
def movesFullSpec : ChangeSpec := { name := "movesFull", fn := fun _ => fun
  | [d] => { results := [.lit (.bool true)], args := [d] }
  | _ => none }
def movesFullRow : OpenClaim := { program := "ytobbepmlmbbamaa", sum := "0a11253632a1b05acffefba244799c8cb5a500c5d10cc5ba173cb14aafb82d35", func := "unravel/unravellaw08.MovesFull", spec := "movesFull", unfollowed := true, recurses := true, apart := false }
def MovesFullSaid : Prop := movesFullRow.holds Try.pinned (OpenSpec.ofChange movesFullSpec)

/-- ITS FALSE NEIGHBOUR: 'it returns false'. Refute it at one input. -/
def movesFullWrong : ChangeSpec := { name := "movesFull", fn := fun _ => fun
  | [d] => { results := [.lit (.bool false)], args := [d] }
  | _ => none }
def MovesFullWrongFalsely : Prop := movesFullRow.holds Try.pinned (OpenSpec.ofChange movesFullWrong)

/-- 'unravellaw08.MovesSlides': WHATEVER THE INPUT: true; the input reads as it did. -/
def movesSlidesSpec : ChangeSpec := { name := "movesSlides", fn := fun _ => fun
  | [d1, d2] => { results := [.lit (.bool true)], args := [d1, d2] }
  | _ => none }
def movesSlidesRow : OpenClaim := { program := "ytobbepmlmbbamaa", sum := "0a11253632a1b05acffefba244799c8cb5a500c5d10cc5ba173cb14aafb82d35", func := "unravel/unravellaw08.MovesSlides", spec := "movesSlides", unfollowed := true, recurses := true, apart := false }
def MovesSlidesSaid : Prop := movesSlidesRow.holds Try.pinned (OpenSpec.ofChange movesSlidesSpec)

/-- ITS FALSE NEIGHBOUR: 'it returns false'. Refute it at one input. -/
def movesSlidesWrong : ChangeSpec := { name := "movesSlides", fn := fun _ => fun
  | [d1, d2] => { results := [.lit (.bool false)], args := [d1, d2] }
  | _ => none }
def MovesSlidesWrongFalsely : Prop := movesSlidesRow.holds Try.pinned (OpenSpec.ofChange movesSlidesWrong)

/-- 'unravellaw08.MovesAll': WHATEVER THE INPUT: true; the input reads as it did. -/
def movesAllSpec : ChangeSpec := { name := "movesAll", fn := fun _ => fun
  | [d] => { results := [.lit (.bool true)], args := [d] }
  | _ => none }
def movesAllRow : OpenClaim := { program := "ytobbepmlmbbamaa", sum := "0a11253632a1b05acffefba244799c8cb5a500c5d10cc5ba173cb14aafb82d35", func := "unravel/unravellaw08.MovesAll", spec := "movesAll", unfollowed := true, recurses := true, apart := false }
def MovesAllSaid : Prop := movesAllRow.holds Try.pinned (OpenSpec.ofChange movesAllSpec)

/-- ITS FALSE NEIGHBOUR: 'it returns false'. Refute it at one input. -/
def movesAllWrong : ChangeSpec := { name := "movesAll", fn := fun _ => fun
  | [d] => { results := [.lit (.bool false)], args := [d] }
  | _ => none }
def MovesAllWrongFalsely : Prop := movesAllRow.holds Try.pinned (OpenSpec.ofChange movesAllWrong)

/-- 'unravellaw08.MovesListed': WHATEVER THE INPUT: true; the input reads as it did. -/
def movesListedSpec : ChangeSpec := { name := "movesListed", fn := fun _ => fun
  | [d1, d2] => { results := [.lit (.bool true)], args := [d1, d2] }
  | _ => none }
def movesListedRow : OpenClaim := { program := "ytobbepmlmbbamaa", sum := "0a11253632a1b05acffefba244799c8cb5a500c5d10cc5ba173cb14aafb82d35", func := "unravel/unravellaw08.MovesListed", spec := "movesListed", unfollowed := true, recurses := true, apart := false }
def MovesListedSaid : Prop := movesListedRow.holds Try.pinned (OpenSpec.ofChange movesListedSpec)

/-- ITS FALSE NEIGHBOUR: 'it returns false'. Refute it at one input. -/
def movesListedWrong : ChangeSpec := { name := "movesListed", fn := fun _ => fun
  | [d1, d2] => { results := [.lit (.bool false)], args := [d1, d2] }
  | _ => none }
def MovesListedWrongFalsely : Prop := movesListedRow.holds Try.pinned (OpenSpec.ofChange movesListedWrong)

/-- 'unravellaw11.WalkCycles': WHATEVER THE INPUT: true; the input reads as it did. -/
def walkCyclesSpec : ChangeSpec := { name := "walkCycles", fn := fun _ => fun
  | [d1, d2, d3] => { results := [.lit (.bool true)], args := [d1, d2, d3] }
  | _ => none }
def walkCyclesRow : OpenClaim := { program := "ytobbepmlmbbamaa", sum := "0a11253632a1b05acffefba244799c8cb5a500c5d10cc5ba173cb14aafb82d35", func := "unravel/unravellaw11.WalkCycles", spec := "walkCycles", unfollowed := true, recurses := true, apart := false }
def WalkCyclesSaid : Prop := walkCyclesRow.holds Try.pinned (OpenSpec.ofChange walkCyclesSpec)

/-- ITS FALSE NEIGHBOUR: 'it returns false'. Refute it at one input. -/
def walkCyclesWrong : ChangeSpec := { name := "walkCycles", fn := fun _ => fun
  | [d1, d2, d3] => { results := [.lit (.bool false)], args := [d1, d2, d3] }
  | _ => none }
def WalkCyclesWrongFalsely : Prop := walkCyclesRow.holds Try.pinned (OpenSpec.ofChange walkCyclesWrong)

/-- 'unravellaw11.WalkGrows': WHATEVER THE INPUT: true; the input reads as it did. -/
def walkGrowsSpec : ChangeSpec := { name := "walkGrows", fn := fun _ => fun
  | [d1, d2, d3, d4] => { results := [.lit (.bool true)], args := [d1, d2, d3, d4] }
  | _ => none }
def walkGrowsRow : OpenClaim := { program := "ytobbepmlmbbamaa", sum := "0a11253632a1b05acffefba244799c8cb5a500c5d10cc5ba173cb14aafb82d35", func := "unravel/unravellaw11.WalkGrows", spec := "walkGrows", unfollowed := true, recurses := true, apart := false }
def WalkGrowsSaid : Prop := walkGrowsRow.holds Try.pinned (OpenSpec.ofChange walkGrowsSpec)

/-- ITS FALSE NEIGHBOUR: 'it returns false'. Refute it at one input. -/
def walkGrowsWrong : ChangeSpec := { name := "walkGrows", fn := fun _ => fun
  | [d1, d2, d3, d4] => { results := [.lit (.bool false)], args := [d1, d2, d3, d4] }
  | _ => none }
def WalkGrowsWrongFalsely : Prop := walkGrowsRow.holds Try.pinned (OpenSpec.ofChange walkGrowsWrong)

/-- 'unravellaw11.WalkStays': WHATEVER THE INPUT: true; the input reads as it did. -/
def walkStaysSpec : ChangeSpec := { name := "walkStays", fn := fun _ => fun
  | [d1, d2, d3] => { results := [.lit (.bool true)], args := [d1, d2, d3] }
  | _ => none }
def walkStaysRow : OpenClaim := { program := "ytobbepmlmbbamaa", sum := "0a11253632a1b05acffefba244799c8cb5a500c5d10cc5ba173cb14aafb82d35", func := "unravel/unravellaw11.WalkStays", spec := "walkStays", unfollowed := true, recurses := true, apart := false }
def WalkStaysSaid : Prop := walkStaysRow.holds Try.pinned (OpenSpec.ofChange walkStaysSpec)

/-- ITS FALSE NEIGHBOUR: 'it returns false'. Refute it at one input. -/
def walkStaysWrong : ChangeSpec := { name := "walkStays", fn := fun _ => fun
  | [d1, d2, d3] => { results := [.lit (.bool false)], args := [d1, d2, d3] }
  | _ => none }
def WalkStaysWrongFalsely : Prop := walkStaysRow.holds Try.pinned (OpenSpec.ofChange walkStaysWrong)

/- THE SECOND FORM. 'bulk': how many values and letters a reading holds, each counted each time it is reached (what is shared counts as often as it is met; a slice's spare places count too). A statement '..UptoSaid' is the law's where the arguments, and the package variables that the reading takes, are together of bulk at most 1048576: NARROWER than '..Said'. Prove '..Said' where nothing that the law and all that it calls make is longer than what came in: it says more and counts as full. Else prove '..UptoSaid'. A law counts once. -/
mutual
def uptoBulk {H : Type} : DataW H → Nat
  | .lit (.string bytes) => bytes.length + 1
  | .lit _ => 1
  | .nil => 1
  | .ptr d => uptoBulk d + 1
  | .slice elems spare => uptoBulkAll elems + uptoBulkAll spare + 1
  | .agg parts => uptoBulkAll parts + 1
  | .iface _ d => uptoBulk d + 1
  | .map entries => uptoBulkEntries entries + 1
  | .held _ => 1
def uptoBulkAll {H : Type} : List (DataW H) → Nat
  | [] => 0
  | d :: r => uptoBulk d + uptoBulkAll r
def uptoBulkEntries {H : Type} : List (Lit × DataW H) → Nat
  | [] => 0
  | x :: r => uptoBulkEntry x + uptoBulkEntries r
def uptoBulkEntry {H : Type} : Lit × DataW H → Nat
  | (.string bytes, d) => bytes.length + uptoBulk d + 1
  | (_, d) => uptoBulk d + 1
 end
def uptoSmall : (H : Type) → List (DataW H) → Bool := fun _ ds => decide (uptoBulkAll ds ≤ 1048576)
def OpenSpec.upto (s : _root_.Go.ChangeSpec) : _root_.Go.OpenSpec := { _root_.Go.OpenSpec.ofChange s with cond := some uptoSmall }

/-- 'unravellaw11.WalkChooses', WHERE WHAT IT READS IS OF BULK AT MOST 1048576: true; the input reads as it did. -/
def walkChoosesUptoRow : OpenClaim := { program := "ytobbepmlmbbamaa", sum := "0a11253632a1b05acffefba244799c8cb5a500c5d10cc5ba173cb14aafb82d35", func := "unravel/unravellaw11.WalkChooses", spec := "walkChooses", unfollowed := true, recurses := true, apart := false, narrowed := true }
def WalkChoosesUptoSaid : Prop := walkChoosesUptoRow.holds Try.pinned (OpenSpec.upto walkChoosesSpec)

/-- 'unravellaw08.MovesApply', WHERE WHAT IT READS IS OF BULK AT MOST 1048576: true; the input reads as it did. -/
def movesApplyUptoRow : OpenClaim := { program := "ytobbepmlmbbamaa", sum := "0a11253632a1b05acffefba244799c8cb5a500c5d10cc5ba173cb14aafb82d35", func := "unravel/unravellaw08.MovesApply", spec := "movesApply", unfollowed := true, recurses := true, apart := false, narrowed := true }
def MovesApplyUptoSaid : Prop := movesApplyUptoRow.holds Try.pinned (OpenSpec.upto movesApplySpec)

/-- 'unravellaw08.MovesValid', WHERE WHAT IT READS IS OF BULK AT MOST 1048576: true; the input reads as it did. -/
def movesValidUptoRow : OpenClaim := { program := "ytobbepmlmbbamaa", sum := "0a11253632a1b05acffefba244799c8cb5a500c5d10cc5ba173cb14aafb82d35", func := "unravel/unravellaw08.MovesValid", spec := "movesValid", unfollowed := true, recurses := true, apart := false, narrowed := true }
def MovesValidUptoSaid : Prop := movesValidUptoRow.holds Try.pinned (OpenSpec.upto movesValidSpec)

/-- 'unravellaw08.MovesSigns', WHERE WHAT IT READS IS OF BULK AT MOST 1048576: true; the input reads as it did. -/
def movesSignsUptoRow : OpenClaim := { program := "ytobbepmlmbbamaa", sum := "0a11253632a1b05acffefba244799c8cb5a500c5d10cc5ba173cb14aafb82d35", func := "unravel/unravellaw08.MovesSigns", spec := "movesSigns", unfollowed := true, recurses := true, apart := false, narrowed := true }
def MovesSignsUptoSaid : Prop := movesSignsUptoRow.holds Try.pinned (OpenSpec.upto movesSignsSpec)

/-- 'unravellaw08.MovesFull', WHERE WHAT IT READS IS OF BULK AT MOST 1048576: true; the input reads as it did. -/
def movesFullUptoRow : OpenClaim := { program := "ytobbepmlmbbamaa", sum := "0a11253632a1b05acffefba244799c8cb5a500c5d10cc5ba173cb14aafb82d35", func := "unravel/unravellaw08.MovesFull", spec := "movesFull", unfollowed := true, recurses := true, apart := false, narrowed := true }
def MovesFullUptoSaid : Prop := movesFullUptoRow.holds Try.pinned (OpenSpec.upto movesFullSpec)

/-- 'unravellaw08.MovesSlides', WHERE WHAT IT READS IS OF BULK AT MOST 1048576: true; the input reads as it did. -/
def movesSlidesUptoRow : OpenClaim := { program := "ytobbepmlmbbamaa", sum := "0a11253632a1b05acffefba244799c8cb5a500c5d10cc5ba173cb14aafb82d35", func := "unravel/unravellaw08.MovesSlides", spec := "movesSlides", unfollowed := true, recurses := true, apart := false, narrowed := true }
def MovesSlidesUptoSaid : Prop := movesSlidesUptoRow.holds Try.pinned (OpenSpec.upto movesSlidesSpec)

/-- 'unravellaw08.MovesAll', WHERE WHAT IT READS IS OF BULK AT MOST 1048576: true; the input reads as it did. -/
def movesAllUptoRow : OpenClaim := { program := "ytobbepmlmbbamaa", sum := "0a11253632a1b05acffefba244799c8cb5a500c5d10cc5ba173cb14aafb82d35", func := "unravel/unravellaw08.MovesAll", spec := "movesAll", unfollowed := true, recurses := true, apart := false, narrowed := true }
def MovesAllUptoSaid : Prop := movesAllUptoRow.holds Try.pinned (OpenSpec.upto movesAllSpec)

/-- 'unravellaw08.MovesListed', WHERE WHAT IT READS IS OF BULK AT MOST 1048576: true; the input reads as it did. -/
def movesListedUptoRow : OpenClaim := { program := "ytobbepmlmbbamaa", sum := "0a11253632a1b05acffefba244799c8cb5a500c5d10cc5ba173cb14aafb82d35", func := "unravel/unravellaw08.MovesListed", spec := "movesListed", unfollowed := true, recurses := true, apart := false, narrowed := true }
def MovesListedUptoSaid : Prop := movesListedUptoRow.holds Try.pinned (OpenSpec.upto movesListedSpec)

/-- 'unravellaw11.WalkCycles', WHERE WHAT IT READS IS OF BULK AT MOST 1048576: true; the input reads as it did. -/
def walkCyclesUptoRow : OpenClaim := { program := "ytobbepmlmbbamaa", sum := "0a11253632a1b05acffefba244799c8cb5a500c5d10cc5ba173cb14aafb82d35", func := "unravel/unravellaw11.WalkCycles", spec := "walkCycles", unfollowed := true, recurses := true, apart := false, narrowed := true }
def WalkCyclesUptoSaid : Prop := walkCyclesUptoRow.holds Try.pinned (OpenSpec.upto walkCyclesSpec)

/-- 'unravellaw11.WalkGrows', WHERE WHAT IT READS IS OF BULK AT MOST 1048576: true; the input reads as it did. -/
def walkGrowsUptoRow : OpenClaim := { program := "ytobbepmlmbbamaa", sum := "0a11253632a1b05acffefba244799c8cb5a500c5d10cc5ba173cb14aafb82d35", func := "unravel/unravellaw11.WalkGrows", spec := "walkGrows", unfollowed := true, recurses := true, apart := false, narrowed := true }
def WalkGrowsUptoSaid : Prop := walkGrowsUptoRow.holds Try.pinned (OpenSpec.upto walkGrowsSpec)

/-- 'unravellaw11.WalkStays', WHERE WHAT IT READS IS OF BULK AT MOST 1048576: true; the input reads as it did. -/
def walkStaysUptoRow : OpenClaim := { program := "ytobbepmlmbbamaa", sum := "0a11253632a1b05acffefba244799c8cb5a500c5d10cc5ba173cb14aafb82d35", func := "unravel/unravellaw11.WalkStays", spec := "walkStays", unfollowed := true, recurses := true, apart := false, narrowed := true }
def WalkStaysUptoSaid : Prop := walkStaysUptoRow.holds Try.pinned (OpenSpec.upto walkStaysSpec)

end Rows
end Go.Proofs.Ytobbepmlmbbamaa
