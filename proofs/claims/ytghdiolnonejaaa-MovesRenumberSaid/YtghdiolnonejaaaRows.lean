/-
  No cell of these rows narrows 'for every input' (looked for: loops, veiled, ifaces, maps, wideKeys, modest, calm, conditions, laid).
  DERIVED. THE GIVEN ROWS OF THIS SEAT. 7 by the template 'for every input the law returns true; each argument reads behind the call as it read before'; 0 by the template 'total and deterministic' (their statements: YtghdiolnonejaaaTotals.lean).
  GIVEN WITH THE SEED: the statements are not yours to turn. If you find one false, say at which input.
  Laid BY PROGRAM, IN A SANDBOX (cutbox-rows.mjs): the forced cells as the released guide's own fill.sh prints them over the translation 7d7ec8add37d05c8… (all of the seat's roots in one cut). By AI agents, Wed Nov 11 2026. No macro, syntax, notation, axiom, sorry.
-/
import Derived.Test.YtghdiolnonejaaaChecked
import GoSem.Claim
import GoSem.ClaimJoined
import GoSem.ClaimMapViews
import Derived.JoinedTies
import Derived.KernelRfl
namespace Go.Proofs.Ytghdiolnonejaaa
/- THE CELL 'sum', in the pinned program and in every row, IS THE sha256 OF THE DUMP (.gsa) THAT YtghdiolnonejaaaProg.lean LOADS. Nothing in Lean hashes anything: it is a label: what it is worth is what the hold of that sum in a sandbox is worth. -/
noncomputable def Try.pinned : Pinned := { name := "ytghdiolnonejaaa", sum := "7d7ec8add37d05c8a5497e02e2b5e7bbed21c7f96539c7e08325a02cbe773b81", checked := Try.checked }
namespace Rows
def none {H : Type} : Left H := { results := [], args := [] }

/-- 'unravellaw10.SimplifyDown': WHATEVER THE INPUT: true; the input reads as it did. -/
def simplifyDownSpec : ChangeSpec := { name := "simplifyDown", fn := fun _ => fun
  | [d] => { results := [.lit (.bool true)], args := [d] }
  | _ => none }
def simplifyDownRow : OpenClaim := { program := "ytghdiolnonejaaa", sum := "7d7ec8add37d05c8a5497e02e2b5e7bbed21c7f96539c7e08325a02cbe773b81", func := "unravel/unravellaw10.SimplifyDown", spec := "simplifyDown", unfollowed := true, recurses := true, apart := false }
def SimplifyDownSaid : Prop := simplifyDownRow.holds Try.pinned (OpenSpec.ofChange simplifyDownSpec)

/-- ITS FALSE NEIGHBOUR: 'it returns false'. Refute it at one input. -/
def simplifyDownWrong : ChangeSpec := { name := "simplifyDown", fn := fun _ => fun
  | [d] => { results := [.lit (.bool false)], args := [d] }
  | _ => none }
def SimplifyDownWrongFalsely : Prop := simplifyDownRow.holds Try.pinned (OpenSpec.ofChange simplifyDownWrong)

/-- 'unravellaw11.WalkLimits': WHATEVER THE INPUT: true; the input reads as it did. -/
def walkLimitsSpec : ChangeSpec := { name := "walkLimits", fn := fun _ => fun
  | [d1, d2, d3] => { results := [.lit (.bool true)], args := [d1, d2, d3] }
  | _ => none }
def walkLimitsRow : OpenClaim := { program := "ytghdiolnonejaaa", sum := "7d7ec8add37d05c8a5497e02e2b5e7bbed21c7f96539c7e08325a02cbe773b81", func := "unravel/unravellaw11.WalkLimits", spec := "walkLimits", unfollowed := true, recurses := true, apart := false }
def WalkLimitsSaid : Prop := walkLimitsRow.holds Try.pinned (OpenSpec.ofChange walkLimitsSpec)

/-- ITS FALSE NEIGHBOUR: 'it returns false'. Refute it at one input. -/
def walkLimitsWrong : ChangeSpec := { name := "walkLimits", fn := fun _ => fun
  | [d1, d2, d3] => { results := [.lit (.bool false)], args := [d1, d2, d3] }
  | _ => none }
def WalkLimitsWrongFalsely : Prop := walkLimitsRow.holds Try.pinned (OpenSpec.ofChange walkLimitsWrong)

/-- 'unravellaw11.WalkSteps': WHATEVER THE INPUT: true; the input reads as it did. -/
def walkStepsSpec : ChangeSpec := { name := "walkSteps", fn := fun _ => fun
  | [d1, d2, d3, d4] => { results := [.lit (.bool true)], args := [d1, d2, d3, d4] }
  | _ => none }
def walkStepsRow : OpenClaim := { program := "ytghdiolnonejaaa", sum := "7d7ec8add37d05c8a5497e02e2b5e7bbed21c7f96539c7e08325a02cbe773b81", func := "unravel/unravellaw11.WalkSteps", spec := "walkSteps", unfollowed := true, recurses := true, apart := false }
def WalkStepsSaid : Prop := walkStepsRow.holds Try.pinned (OpenSpec.ofChange walkStepsSpec)

/-- ITS FALSE NEIGHBOUR: 'it returns false'. Refute it at one input. -/
def walkStepsWrong : ChangeSpec := { name := "walkSteps", fn := fun _ => fun
  | [d1, d2, d3, d4] => { results := [.lit (.bool false)], args := [d1, d2, d3, d4] }
  | _ => none }
def WalkStepsWrongFalsely : Prop := walkStepsRow.holds Try.pinned (OpenSpec.ofChange walkStepsWrong)

/-- 'unravellaw08.MovesInverse': WHATEVER THE INPUT: true; the input reads as it did. -/
def movesInverseSpec : ChangeSpec := { name := "movesInverse", fn := fun _ => fun
  | [d1, d2] => { results := [.lit (.bool true)], args := [d1, d2] }
  | _ => none }
def movesInverseRow : OpenClaim := { program := "ytghdiolnonejaaa", sum := "7d7ec8add37d05c8a5497e02e2b5e7bbed21c7f96539c7e08325a02cbe773b81", func := "unravel/unravellaw08.MovesInverse", spec := "movesInverse", unfollowed := true, recurses := true, apart := false }
def MovesInverseSaid : Prop := movesInverseRow.holds Try.pinned (OpenSpec.ofChange movesInverseSpec)

/-- ITS FALSE NEIGHBOUR: 'it returns false'. Refute it at one input. -/
def movesInverseWrong : ChangeSpec := { name := "movesInverse", fn := fun _ => fun
  | [d1, d2] => { results := [.lit (.bool false)], args := [d1, d2] }
  | _ => none }
def MovesInverseWrongFalsely : Prop := movesInverseRow.holds Try.pinned (OpenSpec.ofChange movesInverseWrong)

/-- 'unravellaw10.SimplifySame': WHATEVER THE INPUT: true; the input reads as it did. -/
def simplifySameSpec : ChangeSpec := { name := "simplifySame", fn := fun _ => fun
  | [d1, d2] => { results := [.lit (.bool true)], args := [d1, d2] }
  | _ => none }
def simplifySameRow : OpenClaim := { program := "ytghdiolnonejaaa", sum := "7d7ec8add37d05c8a5497e02e2b5e7bbed21c7f96539c7e08325a02cbe773b81", func := "unravel/unravellaw10.SimplifySame", spec := "simplifySame", unfollowed := true, recurses := true, apart := false }
def SimplifySameSaid : Prop := simplifySameRow.holds Try.pinned (OpenSpec.ofChange simplifySameSpec)

/-- ITS FALSE NEIGHBOUR: 'it returns false'. Refute it at one input. -/
def simplifySameWrong : ChangeSpec := { name := "simplifySame", fn := fun _ => fun
  | [d1, d2] => { results := [.lit (.bool false)], args := [d1, d2] }
  | _ => none }
def SimplifySameWrongFalsely : Prop := simplifySameRow.holds Try.pinned (OpenSpec.ofChange simplifySameWrong)

/-- 'unravellaw08.MovesRenumber': WHATEVER THE INPUT: true; the input reads as it did. -/
def movesRenumberSpec : ChangeSpec := { name := "movesRenumber", fn := fun _ => fun
  | [d1, d2, d3] => { results := [.lit (.bool true)], args := [d1, d2, d3] }
  | _ => none }
def movesRenumberRow : OpenClaim := { program := "ytghdiolnonejaaa", sum := "7d7ec8add37d05c8a5497e02e2b5e7bbed21c7f96539c7e08325a02cbe773b81", func := "unravel/unravellaw08.MovesRenumber", spec := "movesRenumber", unfollowed := true, recurses := true, apart := false }
def MovesRenumberSaid : Prop := movesRenumberRow.holds Try.pinned (OpenSpec.ofChange movesRenumberSpec)

/-- ITS FALSE NEIGHBOUR: 'it returns false'. Refute it at one input. -/
def movesRenumberWrong : ChangeSpec := { name := "movesRenumber", fn := fun _ => fun
  | [d1, d2, d3] => { results := [.lit (.bool false)], args := [d1, d2, d3] }
  | _ => none }
def MovesRenumberWrongFalsely : Prop := movesRenumberRow.holds Try.pinned (OpenSpec.ofChange movesRenumberWrong)

/-- 'unravellaw11.WalkMovie': WHATEVER THE INPUT: true; the input reads as it did. -/
def walkMovieSpec : ChangeSpec := { name := "walkMovie", fn := fun _ => fun
  | [d1, d2, d3] => { results := [.lit (.bool true)], args := [d1, d2, d3] }
  | _ => none }
def walkMovieRow : OpenClaim := { program := "ytghdiolnonejaaa", sum := "7d7ec8add37d05c8a5497e02e2b5e7bbed21c7f96539c7e08325a02cbe773b81", func := "unravel/unravellaw11.WalkMovie", spec := "walkMovie", unfollowed := true, recurses := true, apart := false }
def WalkMovieSaid : Prop := walkMovieRow.holds Try.pinned (OpenSpec.ofChange walkMovieSpec)

/-- ITS FALSE NEIGHBOUR: 'it returns false'. Refute it at one input. -/
def walkMovieWrong : ChangeSpec := { name := "walkMovie", fn := fun _ => fun
  | [d1, d2, d3] => { results := [.lit (.bool false)], args := [d1, d2, d3] }
  | _ => none }
def WalkMovieWrongFalsely : Prop := walkMovieRow.holds Try.pinned (OpenSpec.ofChange walkMovieWrong)

/- THE SECOND FORM. 'bulk': how many values and letters a reading holds, each counted each time it is reached (what is shared counts as often as it is met; a slice's spare places count too). A statement '..UptoSaid' is the law's where the arguments, and the package variables that the reading takes, are together of bulk at most 1048576: NARROWER than '..Said'. Prove '..Said' where nothing that the law and all that it calls make is longer than what came in: it says more and counts as full. Else prove '..UptoSaid'. A law counts once. -/
mutual
def uptoBulk {H : Type} : DataW H → Nat
  | .lit (.string bytes) => bytes.length + 1
  | .lit _ => 1
  | .nil => 1
  | .ptr d => uptoBulk d + 1
  | .slice elems spare => uptoBulkAll elems + uptoBulkAll spare + 1
  | .agg parts => uptoBulkAll parts + 1
  | .iface _ d => uptoBulk d + 1
  | .map entries => uptoBulkEntries entries + 1
  | .held _ => 1
def uptoBulkAll {H : Type} : List (DataW H) → Nat
  | [] => 0
  | d :: r => uptoBulk d + uptoBulkAll r
def uptoBulkEntries {H : Type} : List (Lit × DataW H) → Nat
  | [] => 0
  | x :: r => uptoBulkEntry x + uptoBulkEntries r
def uptoBulkEntry {H : Type} : Lit × DataW H → Nat
  | (.string bytes, d) => bytes.length + uptoBulk d + 1
  | (_, d) => uptoBulk d + 1
 end
def uptoSmall : (H : Type) → List (DataW H) → Bool := fun _ ds => decide (uptoBulkAll ds ≤ 1048576)
def OpenSpec.upto (s : _root_.Go.ChangeSpec) : _root_.Go.OpenSpec := { _root_.Go.OpenSpec.ofChange s with cond := some uptoSmall }

/-- 'unravellaw10.SimplifyDown', WHERE WHAT IT READS IS OF BULK AT MOST 1048576: true; the input reads as it did. -/
def simplifyDownUptoRow : OpenClaim := { program := "ytghdiolnonejaaa", sum := "7d7ec8add37d05c8a5497e02e2b5e7bbed21c7f96539c7e08325a02cbe773b81", func := "unravel/unravellaw10.SimplifyDown", spec := "simplifyDown", unfollowed := true, recurses := true, apart := false, narrowed := true }
def SimplifyDownUptoSaid : Prop := simplifyDownUptoRow.holds Try.pinned (OpenSpec.upto simplifyDownSpec)

/-- 'unravellaw11.WalkLimits', WHERE WHAT IT READS IS OF BULK AT MOST 1048576: true; the input reads as it did. -/
def walkLimitsUptoRow : OpenClaim := { program := "ytghdiolnonejaaa", sum := "7d7ec8add37d05c8a5497e02e2b5e7bbed21c7f96539c7e08325a02cbe773b81", func := "unravel/unravellaw11.WalkLimits", spec := "walkLimits", unfollowed := true, recurses := true, apart := false, narrowed := true }
def WalkLimitsUptoSaid : Prop := walkLimitsUptoRow.holds Try.pinned (OpenSpec.upto walkLimitsSpec)

/-- 'unravellaw11.WalkSteps', WHERE WHAT IT READS IS OF BULK AT MOST 1048576: true; the input reads as it did. -/
def walkStepsUptoRow : OpenClaim := { program := "ytghdiolnonejaaa", sum := "7d7ec8add37d05c8a5497e02e2b5e7bbed21c7f96539c7e08325a02cbe773b81", func := "unravel/unravellaw11.WalkSteps", spec := "walkSteps", unfollowed := true, recurses := true, apart := false, narrowed := true }
def WalkStepsUptoSaid : Prop := walkStepsUptoRow.holds Try.pinned (OpenSpec.upto walkStepsSpec)

/-- 'unravellaw08.MovesInverse', WHERE WHAT IT READS IS OF BULK AT MOST 1048576: true; the input reads as it did. -/
def movesInverseUptoRow : OpenClaim := { program := "ytghdiolnonejaaa", sum := "7d7ec8add37d05c8a5497e02e2b5e7bbed21c7f96539c7e08325a02cbe773b81", func := "unravel/unravellaw08.MovesInverse", spec := "movesInverse", unfollowed := true, recurses := true, apart := false, narrowed := true }
def MovesInverseUptoSaid : Prop := movesInverseUptoRow.holds Try.pinned (OpenSpec.upto movesInverseSpec)

/-- 'unravellaw10.SimplifySame', WHERE WHAT IT READS IS OF BULK AT MOST 1048576: true; the input reads as it did. -/
def simplifySameUptoRow : OpenClaim := { program := "ytghdiolnonejaaa", sum := "7d7ec8add37d05c8a5497e02e2b5e7bbed21c7f96539c7e08325a02cbe773b81", func := "unravel/unravellaw10.SimplifySame", spec := "simplifySame", unfollowed := true, recurses := true, apart := false, narrowed := true }
def SimplifySameUptoSaid : Prop := simplifySameUptoRow.holds Try.pinned (OpenSpec.upto simplifySameSpec)

/-- 'unravellaw08.MovesRenumber', WHERE WHAT IT READS IS OF BULK AT MOST 1048576: true; the input reads as it did. -/
def movesRenumberUptoRow : OpenClaim := { program := "ytghdiolnonejaaa", sum := "7d7ec8add37d05c8a5497e02e2b5e7bbed21c7f96539c7e08325a02cbe773b81", func := "unravel/unravellaw08.MovesRenumber", spec := "movesRenumber", unfollowed := true, recurses := true, apart := false, narrowed := true }
def MovesRenumberUptoSaid : Prop := movesRenumberUptoRow.holds Try.pinned (OpenSpec.upto movesRenumberSpec)

/-- 'unravellaw11.WalkMovie', WHERE WHAT IT READS IS OF BULK AT MOST 1048576: true; the input reads as it did. -/
def walkMovieUptoRow : OpenClaim := { program := "ytghdiolnonejaaa", sum := "7d7ec8add37d05c8a5497e02e2b5e7bbed21c7f96539c7e08325a02cbe773b81", func := "unravel/unravellaw11.WalkMovie", spec := "walkMovie", unfollowed := true, recurses := true, apart := false, narrowed := true }
def WalkMovieUptoSaid : Prop := walkMovieUptoRow.holds Try.pinned (OpenSpec.upto walkMovieSpec)

end Rows
end Go.Proofs.Ytghdiolnonejaaa
