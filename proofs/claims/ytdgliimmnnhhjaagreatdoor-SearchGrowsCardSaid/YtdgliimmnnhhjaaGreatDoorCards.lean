/-
  DERIVED. GIVEN WITH THE SEED: THE CARDS: each row of YtdgliimmnnhhjaaGreatDoorRows.lean that lists a variable, with what it lists TIED to the program's text (the seventh form; the later family's looks); each row that meets fmt, with fmt's text TOLD by the authors' own Lean function (tested against real Go, not proved from fmt's source: count such statements apart). THE CARD IS WHAT COUNTS. Prove the row's statement (the work); the ties are given (YtdgliimmnnhhjaaGreatDoorTie.lean); close each card by the builder's one call (the guide's Derived/Test/ToyasCard.lean, 'card_holds'). Laid BY PROGRAM, IN A SANDBOX (cutbox-door.mjs). By AI agents, Wed Nov 11 2026. No macro, syntax, notation, axiom, sorry.
-/
import Derived.Test.YtdgliimmnnhhjaaGreatDoorRows
import GoSem.ClaimSeven
namespace Go.Proofs.YtdgliimmnnhhjaaGreatDoor
namespace Rows

/-- THE TIED CARD OF 'unravellaw48.SearchGrows'. -/
def searchGrowsCard : Claim7 := { stood := { row := searchGrowsRow, standIns := [], harness := (true, "59565cc2709b1dc0a0b8bff595c5a23f4c1e0ae3d0cb90cf354463ea72f89688"), looks := false }, kinds := [], alts := [], laidByText := true, laidKinds := [.data, .data, .data], laidTests := true, laidLooks := .later }
def SearchGrowsCardSaid : Prop := Claim7.holds Tryz.pinned (.plain (OpenSpec.ofChange searchGrowsSpec)) searchGrowsCard

/-- THE SECOND FORM's CARD OF 'unravellaw48.SearchGrows'. -/
def searchGrowsUptoCard : Claim7 := { stood := { row := searchGrowsUptoRow, standIns := [], harness := (true, "59565cc2709b1dc0a0b8bff595c5a23f4c1e0ae3d0cb90cf354463ea72f89688"), looks := false }, kinds := [], alts := [], laidByText := true, laidKinds := [.data, .data, .data], laidTests := true, laidLooks := .later }
def SearchGrowsUptoCardSaid : Prop := Claim7.holds Tryz.pinned (.plain (OpenSpec.upto searchGrowsSpec)) searchGrowsUptoCard
end Rows
end Go.Proofs.YtdgliimmnnhhjaaGreatDoor
