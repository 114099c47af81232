/-
  DERIVED. GIVEN WITH THE SEED: THE CARDS: each row of YtghdiolnonejaaaGreatDoorRows.lean that lists a variable, with what it lists TIED to the program's text (the seventh form; the later family's looks); each row that meets fmt, with fmt's text TOLD by the authors' own Lean function (tested against real Go, not proved from fmt's source: count such statements apart). THE CARD IS WHAT COUNTS. Prove the row's statement (the work); the ties are given (YtghdiolnonejaaaGreatDoorTie.lean); close each card by the builder's one call (the guide's Derived/Test/ToyasCard.lean, 'card_holds'). Laid BY PROGRAM, IN A SANDBOX (cutbox-door.mjs). By AI agents, Wed Nov 11 2026. No macro, syntax, notation, axiom, sorry.
-/
import Derived.Test.YtghdiolnonejaaaGreatDoorRows
import GoSem.ClaimSeven
namespace Go.Proofs.YtghdiolnonejaaaGreatDoor
namespace Rows

/-- THE TIED CARD OF 'unravellaw10.SimplifyAgain'. -/
def simplifyAgainCard : Claim7 := { stood := { row := simplifyAgainRow, standIns := [], harness := (true, "4a840793dc7689790923fada3fac5e452a13d08ebe5dfeacdeb5bcdd5a6ef66b"), looks := false }, kinds := [], alts := [], laidByText := true, laidKinds := [.data, .data, .data], laidTests := true, laidLooks := .later }
def SimplifyAgainCardSaid : Prop := Claim7.holds Tryz.pinned (.plain (OpenSpec.ofChange simplifyAgainSpec)) simplifyAgainCard

/-- THE TIED CARD OF 'unravellaw10.SimplifyLeads'. -/
def simplifyLeadsCard : Claim7 := { stood := { row := simplifyLeadsRow, standIns := [], harness := (true, "4a840793dc7689790923fada3fac5e452a13d08ebe5dfeacdeb5bcdd5a6ef66b"), looks := false }, kinds := [], alts := [], laidByText := true, laidKinds := [.data, .data, .data], laidTests := true, laidLooks := .later }
def SimplifyLeadsCardSaid : Prop := Claim7.holds Tryz.pinned (.plain (OpenSpec.ofChange simplifyLeadsSpec)) simplifyLeadsCard

/-- THE TIED CARD OF 'unravellaw48.SearchErrors'. -/
def searchErrorsCard : Claim7 := { stood := { row := searchErrorsRow, standIns := [], harness := (true, "4a840793dc7689790923fada3fac5e452a13d08ebe5dfeacdeb5bcdd5a6ef66b"), looks := false }, kinds := [], alts := [], laidByText := true, laidKinds := [.data, .data, .data], laidTests := true, laidLooks := .later }
def SearchErrorsCardSaid : Prop := Claim7.holds Tryz.pinned (.plain (OpenSpec.ofChange searchErrorsSpec)) searchErrorsCard

/-- THE SECOND FORM's CARD OF 'unravellaw10.SimplifyAgain'. -/
def simplifyAgainUptoCard : Claim7 := { stood := { row := simplifyAgainUptoRow, standIns := [], harness := (true, "4a840793dc7689790923fada3fac5e452a13d08ebe5dfeacdeb5bcdd5a6ef66b"), looks := false }, kinds := [], alts := [], laidByText := true, laidKinds := [.data, .data, .data], laidTests := true, laidLooks := .later }
def SimplifyAgainUptoCardSaid : Prop := Claim7.holds Tryz.pinned (.plain (OpenSpec.upto simplifyAgainSpec)) simplifyAgainUptoCard

/-- THE SECOND FORM's CARD OF 'unravellaw10.SimplifyLeads'. -/
def simplifyLeadsUptoCard : Claim7 := { stood := { row := simplifyLeadsUptoRow, standIns := [], harness := (true, "4a840793dc7689790923fada3fac5e452a13d08ebe5dfeacdeb5bcdd5a6ef66b"), looks := false }, kinds := [], alts := [], laidByText := true, laidKinds := [.data, .data, .data], laidTests := true, laidLooks := .later }
def SimplifyLeadsUptoCardSaid : Prop := Claim7.holds Tryz.pinned (.plain (OpenSpec.upto simplifyLeadsSpec)) simplifyLeadsUptoCard

/-- THE SECOND FORM's CARD OF 'unravellaw48.SearchErrors'. -/
def searchErrorsUptoCard : Claim7 := { stood := { row := searchErrorsUptoRow, standIns := [], harness := (true, "4a840793dc7689790923fada3fac5e452a13d08ebe5dfeacdeb5bcdd5a6ef66b"), looks := false }, kinds := [], alts := [], laidByText := true, laidKinds := [.data, .data, .data], laidTests := true, laidLooks := .later }
def SearchErrorsUptoCardSaid : Prop := Claim7.holds Tryz.pinned (.plain (OpenSpec.upto searchErrorsSpec)) searchErrorsUptoCard
end Rows
end Go.Proofs.YtghdiolnonejaaaGreatDoor
