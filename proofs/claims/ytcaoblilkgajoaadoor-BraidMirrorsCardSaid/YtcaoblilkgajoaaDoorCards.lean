/-
  DERIVED. GIVEN WITH THE SEED: THE CARDS: each row of YtcaoblilkgajoaaDoorRows.lean that lists a variable, with what it lists TIED to the program's text (the seventh form; the later family's looks); each row that meets fmt, with fmt's text TOLD by the authors' own Lean function (tested against real Go, not proved from fmt's source: count such statements apart). THE CARD IS WHAT COUNTS. Prove the row's statement (the work); the ties are given (YtcaoblilkgajoaaDoorTie.lean); close each card by the builder's one call (the guide's Derived/Test/ToyasCard.lean, 'card_holds'). Laid BY PROGRAM, IN A SANDBOX (cutbox-door.mjs). By AI agents, Wed Nov 11 2026. No macro, syntax, notation, axiom, sorry.
-/
import Derived.Test.YtcaoblilkgajoaaDoorRows
import GoSem.ClaimSeven
namespace Go.Proofs.YtcaoblilkgajoaaDoor
namespace Rows

/-- THE TIED CARD OF 'unravellaw33.BraidClosure'. -/
def braidClosureCard : Claim7 := { stood := { row := braidClosureRow, standIns := [], harness := (true, "be93f9984af9ddb666d95b224d3a743874840c112f45718539f2e074e14d7ea6"), looks := true }, kinds := [], alts := [], laidByText := true, laidKinds := [.data, .data, .data, .sentinel, .sentinel], laidTests := true, laidLooks := .later }
def BraidClosureCardSaid : Prop := Claim7.holds Tryd.pinned (.plain (OpenSpec.ofChange braidClosureSpec)) braidClosureCard

/-- THE TIED CARD OF 'unravellaw33.BraidRotates'. -/
def braidRotatesCard : Claim7 := { stood := { row := braidRotatesRow, standIns := [], harness := (true, "be93f9984af9ddb666d95b224d3a743874840c112f45718539f2e074e14d7ea6"), looks := true }, kinds := [], alts := [], laidByText := true, laidKinds := [.data, .data, .data, .sentinel, .sentinel], laidTests := true, laidLooks := .later }
def BraidRotatesCardSaid : Prop := Claim7.holds Tryd.pinned (.plain (OpenSpec.ofChange braidRotatesSpec)) braidRotatesCard

/-- THE TIED CARD OF 'unravellaw33.BraidParses'. -/
def braidParsesCard : Claim7 := { stood := { row := braidParsesRow, standIns := [], harness := (true, "be93f9984af9ddb666d95b224d3a743874840c112f45718539f2e074e14d7ea6"), looks := true }, kinds := [], alts := [], laidByText := true, laidKinds := [.data, .data, .data, .sentinel, .sentinel], laidTests := true, laidLooks := .later }
def BraidParsesCardSaid : Prop := Claim7.holds Tryd.pinned (.plain (OpenSpec.ofChange braidParsesSpec)) braidParsesCard

/-- THE TIED CARD OF 'unravellaw33.BraidMirrors'. -/
def braidMirrorsCard : Claim7 := { stood := { row := braidMirrorsRow, standIns := [], harness := (true, "be93f9984af9ddb666d95b224d3a743874840c112f45718539f2e074e14d7ea6"), looks := true }, kinds := [], alts := [], laidByText := true, laidKinds := [.data, .data, .data, .sentinel, .sentinel], laidTests := true, laidLooks := .later }
def BraidMirrorsCardSaid : Prop := Claim7.holds Tryd.pinned (.plain (OpenSpec.ofChange braidMirrorsSpec)) braidMirrorsCard

/-- THE TIED CARD OF 'unravellaw33.BraidBasics'. -/
def braidBasicsCard : Claim7 := { stood := { row := braidBasicsRow, standIns := [], harness := (true, "be93f9984af9ddb666d95b224d3a743874840c112f45718539f2e074e14d7ea6"), looks := true }, kinds := [], alts := [], laidByText := true, laidKinds := [.data, .data, .data, .sentinel, .sentinel], laidTests := true, laidLooks := .later }
def BraidBasicsCardSaid : Prop := Claim7.holds Tryd.pinned (.plain (OpenSpec.ofChange braidBasicsSpec)) braidBasicsCard

/-- THE TIED CARD OF 'unravellaw33.BraidComponents'. -/
def braidComponentsCard : Claim7 := { stood := { row := braidComponentsRow, standIns := [], harness := (true, "be93f9984af9ddb666d95b224d3a743874840c112f45718539f2e074e14d7ea6"), looks := true }, kinds := [], alts := [], laidByText := true, laidKinds := [.data, .data, .data, .sentinel, .sentinel], laidTests := true, laidLooks := .later }
def BraidComponentsCardSaid : Prop := Claim7.holds Tryd.pinned (.plain (OpenSpec.ofChange braidComponentsSpec)) braidComponentsCard

/-- THE TIED CARD OF 'unravellaw33.BraidProducts'. -/
def braidProductsCard : Claim7 := { stood := { row := braidProductsRow, standIns := [], harness := (true, "be93f9984af9ddb666d95b224d3a743874840c112f45718539f2e074e14d7ea6"), looks := true }, kinds := [], alts := [], laidByText := true, laidKinds := [.data, .data, .data, .sentinel, .sentinel], laidTests := true, laidLooks := .later }
def BraidProductsCardSaid : Prop := Claim7.holds Tryd.pinned (.plain (OpenSpec.ofChange braidProductsSpec)) braidProductsCard

/-- THE SECOND FORM's CARD OF 'unravellaw33.BraidClosure'. -/
def braidClosureUptoCard : Claim7 := { stood := { row := braidClosureUptoRow, standIns := [], harness := (true, "be93f9984af9ddb666d95b224d3a743874840c112f45718539f2e074e14d7ea6"), looks := true }, kinds := [], alts := [], laidByText := true, laidKinds := [.data, .data, .data, .sentinel, .sentinel], laidTests := true, laidLooks := .later }
def BraidClosureUptoCardSaid : Prop := Claim7.holds Tryd.pinned (.plain (OpenSpec.upto braidClosureSpec)) braidClosureUptoCard

/-- THE SECOND FORM's CARD OF 'unravellaw33.BraidRotates'. -/
def braidRotatesUptoCard : Claim7 := { stood := { row := braidRotatesUptoRow, standIns := [], harness := (true, "be93f9984af9ddb666d95b224d3a743874840c112f45718539f2e074e14d7ea6"), looks := true }, kinds := [], alts := [], laidByText := true, laidKinds := [.data, .data, .data, .sentinel, .sentinel], laidTests := true, laidLooks := .later }
def BraidRotatesUptoCardSaid : Prop := Claim7.holds Tryd.pinned (.plain (OpenSpec.upto braidRotatesSpec)) braidRotatesUptoCard

/-- THE SECOND FORM's CARD OF 'unravellaw33.BraidParses'. -/
def braidParsesUptoCard : Claim7 := { stood := { row := braidParsesUptoRow, standIns := [], harness := (true, "be93f9984af9ddb666d95b224d3a743874840c112f45718539f2e074e14d7ea6"), looks := true }, kinds := [], alts := [], laidByText := true, laidKinds := [.data, .data, .data, .sentinel, .sentinel], laidTests := true, laidLooks := .later }
def BraidParsesUptoCardSaid : Prop := Claim7.holds Tryd.pinned (.plain (OpenSpec.upto braidParsesSpec)) braidParsesUptoCard

/-- THE SECOND FORM's CARD OF 'unravellaw33.BraidMirrors'. -/
def braidMirrorsUptoCard : Claim7 := { stood := { row := braidMirrorsUptoRow, standIns := [], harness := (true, "be93f9984af9ddb666d95b224d3a743874840c112f45718539f2e074e14d7ea6"), looks := true }, kinds := [], alts := [], laidByText := true, laidKinds := [.data, .data, .data, .sentinel, .sentinel], laidTests := true, laidLooks := .later }
def BraidMirrorsUptoCardSaid : Prop := Claim7.holds Tryd.pinned (.plain (OpenSpec.upto braidMirrorsSpec)) braidMirrorsUptoCard

/-- THE SECOND FORM's CARD OF 'unravellaw33.BraidBasics'. -/
def braidBasicsUptoCard : Claim7 := { stood := { row := braidBasicsUptoRow, standIns := [], harness := (true, "be93f9984af9ddb666d95b224d3a743874840c112f45718539f2e074e14d7ea6"), looks := true }, kinds := [], alts := [], laidByText := true, laidKinds := [.data, .data, .data, .sentinel, .sentinel], laidTests := true, laidLooks := .later }
def BraidBasicsUptoCardSaid : Prop := Claim7.holds Tryd.pinned (.plain (OpenSpec.upto braidBasicsSpec)) braidBasicsUptoCard

/-- THE SECOND FORM's CARD OF 'unravellaw33.BraidComponents'. -/
def braidComponentsUptoCard : Claim7 := { stood := { row := braidComponentsUptoRow, standIns := [], harness := (true, "be93f9984af9ddb666d95b224d3a743874840c112f45718539f2e074e14d7ea6"), looks := true }, kinds := [], alts := [], laidByText := true, laidKinds := [.data, .data, .data, .sentinel, .sentinel], laidTests := true, laidLooks := .later }
def BraidComponentsUptoCardSaid : Prop := Claim7.holds Tryd.pinned (.plain (OpenSpec.upto braidComponentsSpec)) braidComponentsUptoCard

/-- THE SECOND FORM's CARD OF 'unravellaw33.BraidProducts'. -/
def braidProductsUptoCard : Claim7 := { stood := { row := braidProductsUptoRow, standIns := [], harness := (true, "be93f9984af9ddb666d95b224d3a743874840c112f45718539f2e074e14d7ea6"), looks := true }, kinds := [], alts := [], laidByText := true, laidKinds := [.data, .data, .data, .sentinel, .sentinel], laidTests := true, laidLooks := .later }
def BraidProductsUptoCardSaid : Prop := Claim7.holds Tryd.pinned (.plain (OpenSpec.upto braidProductsSpec)) braidProductsUptoCard
end Rows
end Go.Proofs.YtcaoblilkgajoaaDoor
