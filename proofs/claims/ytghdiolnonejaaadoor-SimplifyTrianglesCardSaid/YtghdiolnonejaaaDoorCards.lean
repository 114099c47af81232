/-
  DERIVED. GIVEN WITH THE SEED: THE CARDS: each row of YtghdiolnonejaaaDoorRows.lean that lists a variable, with what it lists TIED to the program's text (the seventh form; the later family's looks); each row that meets fmt, with fmt's text TOLD by the authors' own Lean function (tested against real Go, not proved from fmt's source: count such statements apart). THE CARD IS WHAT COUNTS. Prove the row's statement (the work); the ties are given (YtghdiolnonejaaaDoorTie.lean); close each card by the builder's one call (the guide's Derived/Test/ToyasCard.lean, 'card_holds'). Laid BY PROGRAM, IN A SANDBOX (cutbox-door.mjs). By AI agents, Wed Nov 11 2026. No macro, syntax, notation, axiom, sorry.
-/
import Derived.Test.YtghdiolnonejaaaDoorRows
import GoSem.ClaimSeven
namespace Go.Proofs.YtghdiolnonejaaaDoor
namespace Rows

/-- THE TIED CARD OF 'unravellaw10.SimplifyKinds'. -/
def simplifyKindsCard : Claim7 := { stood := { row := simplifyKindsRow, standIns := [], harness := (true, "8cab24e765de50c2221caeefbd8caad744db85f234fc3c6af80a476e91477dda"), looks := false }, kinds := [], alts := [], laidByText := true, laidKinds := [.data, .data, .data], laidTests := true, laidLooks := .later }
def SimplifyKindsCardSaid : Prop := Claim7.holds Tryd.pinned (.plain (OpenSpec.ofChange simplifyKindsSpec)) simplifyKindsCard

/-- THE TIED CARD OF 'unravellaw10.SimplifyTriangles'. -/
def simplifyTrianglesCard : Claim7 := { stood := { row := simplifyTrianglesRow, standIns := [], harness := (true, "8cab24e765de50c2221caeefbd8caad744db85f234fc3c6af80a476e91477dda"), looks := false }, kinds := [], alts := [], laidByText := true, laidKinds := [.data, .data, .data], laidTests := true, laidLooks := .later }
def SimplifyTrianglesCardSaid : Prop := Claim7.holds Tryd.pinned (.plain (OpenSpec.ofChange simplifyTrianglesSpec)) simplifyTrianglesCard

/-- THE SECOND FORM's CARD OF 'unravellaw10.SimplifyKinds'. -/
def simplifyKindsUptoCard : Claim7 := { stood := { row := simplifyKindsUptoRow, standIns := [], harness := (true, "8cab24e765de50c2221caeefbd8caad744db85f234fc3c6af80a476e91477dda"), looks := false }, kinds := [], alts := [], laidByText := true, laidKinds := [.data, .data, .data], laidTests := true, laidLooks := .later }
def SimplifyKindsUptoCardSaid : Prop := Claim7.holds Tryd.pinned (.plain (OpenSpec.upto simplifyKindsSpec)) simplifyKindsUptoCard

/-- THE SECOND FORM's CARD OF 'unravellaw10.SimplifyTriangles'. -/
def simplifyTrianglesUptoCard : Claim7 := { stood := { row := simplifyTrianglesUptoRow, standIns := [], harness := (true, "8cab24e765de50c2221caeefbd8caad744db85f234fc3c6af80a476e91477dda"), looks := false }, kinds := [], alts := [], laidByText := true, laidKinds := [.data, .data, .data], laidTests := true, laidLooks := .later }
def SimplifyTrianglesUptoCardSaid : Prop := Claim7.holds Tryd.pinned (.plain (OpenSpec.upto simplifyTrianglesSpec)) simplifyTrianglesUptoCard
end Rows
end Go.Proofs.YtghdiolnonejaaaDoor
