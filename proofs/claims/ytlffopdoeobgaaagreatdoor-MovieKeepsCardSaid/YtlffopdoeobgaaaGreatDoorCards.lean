/-
  DERIVED. GIVEN WITH THE SEED: THE CARDS: each row of YtlffopdoeobgaaaGreatDoorRows.lean that lists a variable, with what it lists TIED to the program's text (the seventh form; the later family's looks); each row that meets fmt, with fmt's text TOLD by the authors' own Lean function (tested against real Go, not proved from fmt's source: count such statements apart). THE CARD IS WHAT COUNTS. Prove the row's statement (the work); the ties are given (YtlffopdoeobgaaaGreatDoorTie.lean); close each card by the builder's one call (the guide's Derived/Test/ToyasCard.lean, 'card_holds'). Laid BY PROGRAM, IN A SANDBOX (cutbox-door.mjs). By AI agents, Wed Nov 11 2026. No macro, syntax, notation, axiom, sorry.
-/
import Derived.Test.YtlffopdoeobgaaaGreatDoorRows
import GoSem.ClaimSeven
namespace Go.Proofs.YtlffopdoeobgaaaGreatDoor
namespace Rows

/-- THE TIED CARD OF 'unravellaw09.MoviePlays'. -/
def moviePlaysCard : Claim7 := { stood := { row := moviePlaysRow, standIns := [], harness := (true, "e11276fe75637658243348003a5bec8aa36a85bf69da9f4229197af60bb1b8e3"), looks := true }, kinds := [], alts := [], laidByText := true, laidKinds := [.data, .data, .data, .data, .sentinel, .sentinel, .pinned], laidTests := true, laidLooks := .later }
def MoviePlaysCardSaid : Prop := Claim7.holds Tryz.pinned (.plain (OpenSpec.ofChange moviePlaysSpec)) moviePlaysCard

/-- THE TIED CARD OF 'unravellaw09.MovieBack'. -/
def movieBackCard : Claim7 := { stood := { row := movieBackRow, standIns := [], harness := (true, "e11276fe75637658243348003a5bec8aa36a85bf69da9f4229197af60bb1b8e3"), looks := true }, kinds := [], alts := [], laidByText := true, laidKinds := [.data, .data, .data, .data, .sentinel, .sentinel, .pinned], laidTests := true, laidLooks := .later }
def MovieBackCardSaid : Prop := Claim7.holds Tryz.pinned (.plain (OpenSpec.ofChange movieBackSpec)) movieBackCard

/-- THE TIED CARD OF 'unravellaw09.MovieLimits'. -/
def movieLimitsCard : Claim7 := { stood := { row := movieLimitsRow, standIns := [], harness := (true, "e11276fe75637658243348003a5bec8aa36a85bf69da9f4229197af60bb1b8e3"), looks := true }, kinds := [], alts := [], laidByText := true, laidKinds := [.data, .data, .data, .data, .sentinel, .sentinel, .pinned], laidTests := true, laidLooks := .later }
def MovieLimitsCardSaid : Prop := Claim7.holds Tryz.pinned (.plain (OpenSpec.ofChange movieLimitsSpec)) movieLimitsCard

/-- THE TIED CARD OF 'unravellaw09.MovieSteps'. -/
def movieStepsCard : Claim7 := { stood := { row := movieStepsRow, standIns := [], harness := (true, "e11276fe75637658243348003a5bec8aa36a85bf69da9f4229197af60bb1b8e3"), looks := true }, kinds := [], alts := [], laidByText := true, laidKinds := [.data, .data, .data, .data, .sentinel, .sentinel, .pinned], laidTests := true, laidLooks := .later }
def MovieStepsCardSaid : Prop := Claim7.holds Tryz.pinned (.plain (OpenSpec.ofChange movieStepsSpec)) movieStepsCard

/-- THE TIED CARD OF 'unravellaw09.MovieKeeps'. -/
def movieKeepsCard : Claim7 := { stood := { row := movieKeepsRow, standIns := [], harness := (true, "e11276fe75637658243348003a5bec8aa36a85bf69da9f4229197af60bb1b8e3"), looks := true }, kinds := [], alts := [], laidByText := true, laidKinds := [.data, .data, .data, .data, .sentinel, .sentinel, .pinned], laidTests := true, laidLooks := .later }
def MovieKeepsCardSaid : Prop := Claim7.holds Tryz.pinned (.plain (OpenSpec.ofChange movieKeepsSpec)) movieKeepsCard

/-- THE TIED CARD OF 'unravellaw09.MovieTexts'. -/
def movieTextsCard : Claim7 := { stood := { row := movieTextsRow, standIns := [], harness := (true, "e11276fe75637658243348003a5bec8aa36a85bf69da9f4229197af60bb1b8e3"), looks := true }, kinds := [], alts := [], laidByText := true, laidKinds := [.data, .data, .data, .data, .sentinel, .sentinel, .pinned], laidTests := true, laidLooks := .later }
def MovieTextsCardSaid : Prop := Claim7.holds Tryz.pinned (.plain (OpenSpec.ofChange movieTextsSpec)) movieTextsCard

/-- THE TIED CARD OF 'unravellaw09.MovieParses'. -/
def movieParsesCard : Claim7 := { stood := { row := movieParsesRow, standIns := [], harness := (true, "e11276fe75637658243348003a5bec8aa36a85bf69da9f4229197af60bb1b8e3"), looks := true }, kinds := [], alts := [], laidByText := true, laidKinds := [.data, .data, .data, .data, .sentinel, .sentinel, .pinned], laidTests := true, laidLooks := .later }
def MovieParsesCardSaid : Prop := Claim7.holds Tryz.pinned (.plain (OpenSpec.ofChange movieParsesSpec)) movieParsesCard

/-- THE TIED CARD OF 'unravellaw09.MovieRenumbers'. -/
def movieRenumbersCard : Claim7 := { stood := { row := movieRenumbersRow, standIns := [], harness := (true, "e11276fe75637658243348003a5bec8aa36a85bf69da9f4229197af60bb1b8e3"), looks := true }, kinds := [], alts := [], laidByText := true, laidKinds := [.data, .data, .data, .data, .sentinel, .sentinel, .pinned], laidTests := true, laidLooks := .later }
def MovieRenumbersCardSaid : Prop := Claim7.holds Tryz.pinned (.plain (OpenSpec.ofChange movieRenumbersSpec)) movieRenumbersCard

/-- THE SECOND FORM's CARD OF 'unravellaw09.MoviePlays'. -/
def moviePlaysUptoCard : Claim7 := { stood := { row := moviePlaysUptoRow, standIns := [], harness := (true, "e11276fe75637658243348003a5bec8aa36a85bf69da9f4229197af60bb1b8e3"), looks := true }, kinds := [], alts := [], laidByText := true, laidKinds := [.data, .data, .data, .data, .sentinel, .sentinel, .pinned], laidTests := true, laidLooks := .later }
def MoviePlaysUptoCardSaid : Prop := Claim7.holds Tryz.pinned (.plain (OpenSpec.upto moviePlaysSpec)) moviePlaysUptoCard

/-- THE SECOND FORM's CARD OF 'unravellaw09.MovieBack'. -/
def movieBackUptoCard : Claim7 := { stood := { row := movieBackUptoRow, standIns := [], harness := (true, "e11276fe75637658243348003a5bec8aa36a85bf69da9f4229197af60bb1b8e3"), looks := true }, kinds := [], alts := [], laidByText := true, laidKinds := [.data, .data, .data, .data, .sentinel, .sentinel, .pinned], laidTests := true, laidLooks := .later }
def MovieBackUptoCardSaid : Prop := Claim7.holds Tryz.pinned (.plain (OpenSpec.upto movieBackSpec)) movieBackUptoCard

/-- THE SECOND FORM's CARD OF 'unravellaw09.MovieLimits'. -/
def movieLimitsUptoCard : Claim7 := { stood := { row := movieLimitsUptoRow, standIns := [], harness := (true, "e11276fe75637658243348003a5bec8aa36a85bf69da9f4229197af60bb1b8e3"), looks := true }, kinds := [], alts := [], laidByText := true, laidKinds := [.data, .data, .data, .data, .sentinel, .sentinel, .pinned], laidTests := true, laidLooks := .later }
def MovieLimitsUptoCardSaid : Prop := Claim7.holds Tryz.pinned (.plain (OpenSpec.upto movieLimitsSpec)) movieLimitsUptoCard

/-- THE SECOND FORM's CARD OF 'unravellaw09.MovieSteps'. -/
def movieStepsUptoCard : Claim7 := { stood := { row := movieStepsUptoRow, standIns := [], harness := (true, "e11276fe75637658243348003a5bec8aa36a85bf69da9f4229197af60bb1b8e3"), looks := true }, kinds := [], alts := [], laidByText := true, laidKinds := [.data, .data, .data, .data, .sentinel, .sentinel, .pinned], laidTests := true, laidLooks := .later }
def MovieStepsUptoCardSaid : Prop := Claim7.holds Tryz.pinned (.plain (OpenSpec.upto movieStepsSpec)) movieStepsUptoCard

/-- THE SECOND FORM's CARD OF 'unravellaw09.MovieKeeps'. -/
def movieKeepsUptoCard : Claim7 := { stood := { row := movieKeepsUptoRow, standIns := [], harness := (true, "e11276fe75637658243348003a5bec8aa36a85bf69da9f4229197af60bb1b8e3"), looks := true }, kinds := [], alts := [], laidByText := true, laidKinds := [.data, .data, .data, .data, .sentinel, .sentinel, .pinned], laidTests := true, laidLooks := .later }
def MovieKeepsUptoCardSaid : Prop := Claim7.holds Tryz.pinned (.plain (OpenSpec.upto movieKeepsSpec)) movieKeepsUptoCard

/-- THE SECOND FORM's CARD OF 'unravellaw09.MovieTexts'. -/
def movieTextsUptoCard : Claim7 := { stood := { row := movieTextsUptoRow, standIns := [], harness := (true, "e11276fe75637658243348003a5bec8aa36a85bf69da9f4229197af60bb1b8e3"), looks := true }, kinds := [], alts := [], laidByText := true, laidKinds := [.data, .data, .data, .data, .sentinel, .sentinel, .pinned], laidTests := true, laidLooks := .later }
def MovieTextsUptoCardSaid : Prop := Claim7.holds Tryz.pinned (.plain (OpenSpec.upto movieTextsSpec)) movieTextsUptoCard

/-- THE SECOND FORM's CARD OF 'unravellaw09.MovieParses'. -/
def movieParsesUptoCard : Claim7 := { stood := { row := movieParsesUptoRow, standIns := [], harness := (true, "e11276fe75637658243348003a5bec8aa36a85bf69da9f4229197af60bb1b8e3"), looks := true }, kinds := [], alts := [], laidByText := true, laidKinds := [.data, .data, .data, .data, .sentinel, .sentinel, .pinned], laidTests := true, laidLooks := .later }
def MovieParsesUptoCardSaid : Prop := Claim7.holds Tryz.pinned (.plain (OpenSpec.upto movieParsesSpec)) movieParsesUptoCard

/-- THE SECOND FORM's CARD OF 'unravellaw09.MovieRenumbers'. -/
def movieRenumbersUptoCard : Claim7 := { stood := { row := movieRenumbersUptoRow, standIns := [], harness := (true, "e11276fe75637658243348003a5bec8aa36a85bf69da9f4229197af60bb1b8e3"), looks := true }, kinds := [], alts := [], laidByText := true, laidKinds := [.data, .data, .data, .data, .sentinel, .sentinel, .pinned], laidTests := true, laidLooks := .later }
def MovieRenumbersUptoCardSaid : Prop := Claim7.holds Tryz.pinned (.plain (OpenSpec.upto movieRenumbersSpec)) movieRenumbersUptoCard
end Rows
end Go.Proofs.YtlffopdoeobgaaaGreatDoor
