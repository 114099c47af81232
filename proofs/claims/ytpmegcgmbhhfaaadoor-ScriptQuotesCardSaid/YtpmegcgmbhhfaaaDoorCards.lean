/-
  DERIVED. GIVEN WITH THE SEED: THE CARDS: each row of YtpmegcgmbhhfaaaDoorRows.lean that lists a variable, with what it lists TIED to the program's text (the seventh form; the later family's looks); each row that meets fmt, with fmt's text TOLD by the authors' own Lean function (tested against real Go, not proved from fmt's source: count such statements apart). THE CARD IS WHAT COUNTS. Prove the row's statement (the work); the ties are given (YtpmegcgmbhhfaaaDoorTie.lean); close each card by the builder's one call (the guide's Derived/Test/ToyasCard.lean, 'card_holds'). Laid BY PROGRAM, IN A SANDBOX (cutbox-door.mjs). By AI agents, Wed Nov 11 2026. No macro, syntax, notation, axiom, sorry.
-/
import Derived.Test.YtpmegcgmbhhfaaaDoorRows
import GoSem.ClaimSeven
namespace Go.Proofs.YtpmegcgmbhhfaaaDoor
namespace Rows

/-- THE TIED CARD OF 'unravellaw51.ScriptValid'. -/
def scriptValidCard : Claim7 := { stood := { row := scriptValidRow, standIns := [], harness := (true, "10cf3faa94ad3c3d5fab92d6b9265fcd94eb83702ce07e8ff9fdb71cb4428ee2"), looks := false }, kinds := [], alts := [], laidByText := true, laidKinds := [.data, .pinned], laidTests := true, laidLooks := .later }
def ScriptValidCardSaid : Prop := Claim7.holds Tryd.pinned (.plain (OpenSpec.ofChange scriptValidSpec)) scriptValidCard

/-- THE TIED CARD OF 'unravellaw51.ScriptFormats'. -/
def scriptFormatsCard : Claim7 := { stood := { row := scriptFormatsRow, standIns := [], harness := (true, "10cf3faa94ad3c3d5fab92d6b9265fcd94eb83702ce07e8ff9fdb71cb4428ee2"), looks := false }, kinds := [], alts := [], laidByText := true, laidKinds := [.data, .pinned], laidTests := true, laidLooks := .later }
def ScriptFormatsCardSaid : Prop := Claim7.holds Tryd.pinned (.plain (OpenSpec.ofChange scriptFormatsSpec)) scriptFormatsCard

/-- THE TIED CARD OF 'unravellaw51.ScriptReturns'. -/
def scriptReturnsCard : Claim7 := { stood := { row := scriptReturnsRow, standIns := [], harness := (true, "10cf3faa94ad3c3d5fab92d6b9265fcd94eb83702ce07e8ff9fdb71cb4428ee2"), looks := false }, kinds := [], alts := [], laidByText := true, laidKinds := [.data, .pinned], laidTests := true, laidLooks := .later }
def ScriptReturnsCardSaid : Prop := Claim7.holds Tryd.pinned (.plain (OpenSpec.ofChange scriptReturnsSpec)) scriptReturnsCard

/-- THE TIED CARD OF 'unravellaw51.ScriptLines'. -/
def scriptLinesCard : Claim7 := { stood := { row := scriptLinesRow, standIns := [], harness := (true, "10cf3faa94ad3c3d5fab92d6b9265fcd94eb83702ce07e8ff9fdb71cb4428ee2"), looks := false }, kinds := [], alts := [], laidByText := true, laidKinds := [.data, .pinned], laidTests := true, laidLooks := .later }
def ScriptLinesCardSaid : Prop := Claim7.holds Tryd.pinned (.plain (OpenSpec.ofChange scriptLinesSpec)) scriptLinesCard

/-- THE TIED CARD OF 'unravellaw51.ScriptQuotes'. -/
def scriptQuotesCard : Claim7 := { stood := { row := scriptQuotesRow, standIns := [], harness := (true, "10cf3faa94ad3c3d5fab92d6b9265fcd94eb83702ce07e8ff9fdb71cb4428ee2"), looks := false }, kinds := [], alts := [], laidByText := true, laidKinds := [.data, .pinned], laidTests := true, laidLooks := .later }
def ScriptQuotesCardSaid : Prop := Claim7.holds Tryd.pinned (.plain (OpenSpec.ofChange scriptQuotesSpec)) scriptQuotesCard

/-- THE TIED CARD OF 'unravellaw51.ScriptSpaces'. -/
def scriptSpacesCard : Claim7 := { stood := { row := scriptSpacesRow, standIns := [], harness := (true, "10cf3faa94ad3c3d5fab92d6b9265fcd94eb83702ce07e8ff9fdb71cb4428ee2"), looks := false }, kinds := [], alts := [], laidByText := true, laidKinds := [.data, .pinned], laidTests := true, laidLooks := .later }
def ScriptSpacesCardSaid : Prop := Claim7.holds Tryd.pinned (.plain (OpenSpec.ofChange scriptSpacesSpec)) scriptSpacesCard

/-- THE SECOND FORM's CARD OF 'unravellaw51.ScriptValid'. -/
def scriptValidUptoCard : Claim7 := { stood := { row := scriptValidUptoRow, standIns := [], harness := (true, "10cf3faa94ad3c3d5fab92d6b9265fcd94eb83702ce07e8ff9fdb71cb4428ee2"), looks := false }, kinds := [], alts := [], laidByText := true, laidKinds := [.data, .pinned], laidTests := true, laidLooks := .later }
def ScriptValidUptoCardSaid : Prop := Claim7.holds Tryd.pinned (.plain (OpenSpec.upto scriptValidSpec)) scriptValidUptoCard

/-- THE SECOND FORM's CARD OF 'unravellaw51.ScriptFormats'. -/
def scriptFormatsUptoCard : Claim7 := { stood := { row := scriptFormatsUptoRow, standIns := [], harness := (true, "10cf3faa94ad3c3d5fab92d6b9265fcd94eb83702ce07e8ff9fdb71cb4428ee2"), looks := false }, kinds := [], alts := [], laidByText := true, laidKinds := [.data, .pinned], laidTests := true, laidLooks := .later }
def ScriptFormatsUptoCardSaid : Prop := Claim7.holds Tryd.pinned (.plain (OpenSpec.upto scriptFormatsSpec)) scriptFormatsUptoCard

/-- THE SECOND FORM's CARD OF 'unravellaw51.ScriptReturns'. -/
def scriptReturnsUptoCard : Claim7 := { stood := { row := scriptReturnsUptoRow, standIns := [], harness := (true, "10cf3faa94ad3c3d5fab92d6b9265fcd94eb83702ce07e8ff9fdb71cb4428ee2"), looks := false }, kinds := [], alts := [], laidByText := true, laidKinds := [.data, .pinned], laidTests := true, laidLooks := .later }
def ScriptReturnsUptoCardSaid : Prop := Claim7.holds Tryd.pinned (.plain (OpenSpec.upto scriptReturnsSpec)) scriptReturnsUptoCard

/-- THE SECOND FORM's CARD OF 'unravellaw51.ScriptLines'. -/
def scriptLinesUptoCard : Claim7 := { stood := { row := scriptLinesUptoRow, standIns := [], harness := (true, "10cf3faa94ad3c3d5fab92d6b9265fcd94eb83702ce07e8ff9fdb71cb4428ee2"), looks := false }, kinds := [], alts := [], laidByText := true, laidKinds := [.data, .pinned], laidTests := true, laidLooks := .later }
def ScriptLinesUptoCardSaid : Prop := Claim7.holds Tryd.pinned (.plain (OpenSpec.upto scriptLinesSpec)) scriptLinesUptoCard

/-- THE SECOND FORM's CARD OF 'unravellaw51.ScriptQuotes'. -/
def scriptQuotesUptoCard : Claim7 := { stood := { row := scriptQuotesUptoRow, standIns := [], harness := (true, "10cf3faa94ad3c3d5fab92d6b9265fcd94eb83702ce07e8ff9fdb71cb4428ee2"), looks := false }, kinds := [], alts := [], laidByText := true, laidKinds := [.data, .pinned], laidTests := true, laidLooks := .later }
def ScriptQuotesUptoCardSaid : Prop := Claim7.holds Tryd.pinned (.plain (OpenSpec.upto scriptQuotesSpec)) scriptQuotesUptoCard

/-- THE SECOND FORM's CARD OF 'unravellaw51.ScriptSpaces'. -/
def scriptSpacesUptoCard : Claim7 := { stood := { row := scriptSpacesUptoRow, standIns := [], harness := (true, "10cf3faa94ad3c3d5fab92d6b9265fcd94eb83702ce07e8ff9fdb71cb4428ee2"), looks := false }, kinds := [], alts := [], laidByText := true, laidKinds := [.data, .pinned], laidTests := true, laidLooks := .later }
def ScriptSpacesUptoCardSaid : Prop := Claim7.holds Tryd.pinned (.plain (OpenSpec.upto scriptSpacesSpec)) scriptSpacesUptoCard
end Rows
end Go.Proofs.YtpmegcgmbhhfaaaDoor
