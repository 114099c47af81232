/-
  NARROWER THAN 'FOR EVERY INPUT', by the rows' own cells (each row's printed sentence says how): ScriptValid: laid · ScriptFormats: laid · ScriptReturns: laid · ScriptLines: laid · ScriptQuotes: laid · ScriptSpaces: laid.
  DERIVED. THE GIVEN ROWS OF THIS SEAT. 6 by the template 'for every input the law returns true; each argument reads behind the call as it read before'; 0 by the template 'total and deterministic' (their statements: YtpmegcgmbhhfaaaDoorTotals.lean).
  GIVEN WITH THE SEED: the statements are not yours to turn. If you find one false, say at which input.
  Laid BY PROGRAM, IN A SANDBOX (cutbox-rows.mjs): the forced cells as the released guide's own fill.sh prints them over the translation 7195d729110f761c… (all of the seat's roots in one cut). By AI agents, Wed Nov 11 2026. No macro, syntax, notation, axiom, sorry.
-/
import Derived.Test.YtpmegcgmbhhfaaaDoorChecked
import GoSem.PinnedTables
import GoSem.Claim
import GoSem.ClaimJoined
import GoSem.ClaimMapViews
import Derived.JoinedTies
import Derived.KernelRfl
namespace Go.Proofs.YtpmegcgmbhhfaaaDoor
/- THE CELL 'sum', in the pinned program and in every row, IS THE sha256 OF THE DUMP (.gsa) THAT YtpmegcgmbhhfaaaDoorProg.lean LOADS. Nothing in Lean hashes anything: it is a label: what it is worth is what the hold of that sum in a sandbox is worth. -/
noncomputable def Tryd.pinned : Pinned := { name := "ytpmegcgmbhhfaaadoor", sum := "7195d729110f761c2c18cbdde2a203ad019621cbe0b36eb2f23bb8b854aeb144", checked := Tryd.checked }
namespace Rows
def none {H : Type} : Left H := { results := [], args := [] }

/- WHAT THE LISTED PACKAGE-LEVEL VARIABLES READ AS WHEN THE CALL BEGINS. Each datum BY PROGRAM (the guide's laid-datum.mjs) off the statement by which the dump's own 'gosem.cut.vars' lays the variable. In a bare row this is a premise. The card (YtpmegcgmbhhfaaaDoorCards.lean) ties it to the program's text. -/
def laid_unicode_utf8_acceptRanges {H : Type} : DataW H := .agg [.agg [.lit (.int .u8 128), .lit (.int .u8 191)], .agg [.lit (.int .u8 160), .lit (.int .u8 191)], .agg [.lit (.int .u8 128), .lit (.int .u8 159)], .agg [.lit (.int .u8 144), .lit (.int .u8 191)], .agg [.lit (.int .u8 128), .lit (.int .u8 143)], .agg [.lit (.int .u8 0), .lit (.int .u8 0)], .agg [.lit (.int .u8 0), .lit (.int .u8 0)], .agg [.lit (.int .u8 0), .lit (.int .u8 0)], .agg [.lit (.int .u8 0), .lit (.int .u8 0)], .agg [.lit (.int .u8 0), .lit (.int .u8 0)], .agg [.lit (.int .u8 0), .lit (.int .u8 0)], .agg [.lit (.int .u8 0), .lit (.int .u8 0)], .agg [.lit (.int .u8 0), .lit (.int .u8 0)], .agg [.lit (.int .u8 0), .lit (.int .u8 0)], .agg [.lit (.int .u8 0), .lit (.int .u8 0)], .agg [.lit (.int .u8 0), .lit (.int .u8 0)]]
/-- One of Go's own tables, pinned by name: the form's constant. -/
def laid_unicode_utf8_first : DataW Unit := Go.Pinned.utf8First

/-- 'unravellaw51.ScriptValid': WHATEVER THE INPUT: true; the input reads as it did. -/
def scriptValidSpec : ChangeSpec := { name := "scriptValid", fn := fun _ => fun
  | [d1, d2] => { results := [.lit (.bool true)], args := [d1, d2] }
  | _ => none }
def scriptValidRow : OpenClaim := { program := "ytpmegcgmbhhfaaadoor", sum := "7195d729110f761c2c18cbdde2a203ad019621cbe0b36eb2f23bb8b854aeb144", func := "unravel/unravellaw51.ScriptValid", spec := "scriptValid", inPlace := ["internal/bytealg.IndexByteString", "internal/bytealg.IndexString", "internal/abi.NoEscape"], named := ["internal/bytealg.MaxLen", "unicode/utf8.first", "unicode/utf8.acceptRanges"], apart := false, laid := [("unicode/utf8.acceptRanges", laid_unicode_utf8_acceptRanges), ("unicode/utf8.first", laid_unicode_utf8_first)] }
def ScriptValidSaid : Prop := scriptValidRow.holds Tryd.pinned (OpenSpec.ofChange scriptValidSpec)

/-- ITS FALSE NEIGHBOUR: 'it returns false'. Refute it at one input. -/
def scriptValidWrong : ChangeSpec := { name := "scriptValid", fn := fun _ => fun
  | [d1, d2] => { results := [.lit (.bool false)], args := [d1, d2] }
  | _ => none }
def ScriptValidWrongFalsely : Prop := scriptValidRow.holds Tryd.pinned (OpenSpec.ofChange scriptValidWrong)

/-- 'unravellaw51.ScriptFormats': WHATEVER THE INPUT: true; the input reads as it did. -/
def scriptFormatsSpec : ChangeSpec := { name := "scriptFormats", fn := fun _ => fun
  | [d] => { results := [.lit (.bool true)], args := [d] }
  | _ => none }
def scriptFormatsRow : OpenClaim := { program := "ytpmegcgmbhhfaaadoor", sum := "7195d729110f761c2c18cbdde2a203ad019621cbe0b36eb2f23bb8b854aeb144", func := "unravel/unravellaw51.ScriptFormats", spec := "scriptFormats", inPlace := ["internal/bytealg.IndexByteString", "internal/bytealg.IndexString", "internal/abi.NoEscape"], named := ["internal/bytealg.MaxLen", "unicode/utf8.first", "unicode/utf8.acceptRanges"], apart := false, laid := [("unicode/utf8.acceptRanges", laid_unicode_utf8_acceptRanges), ("unicode/utf8.first", laid_unicode_utf8_first)] }
def ScriptFormatsSaid : Prop := scriptFormatsRow.holds Tryd.pinned (OpenSpec.ofChange scriptFormatsSpec)

/-- ITS FALSE NEIGHBOUR: 'it returns false'. Refute it at one input. -/
def scriptFormatsWrong : ChangeSpec := { name := "scriptFormats", fn := fun _ => fun
  | [d] => { results := [.lit (.bool false)], args := [d] }
  | _ => none }
def ScriptFormatsWrongFalsely : Prop := scriptFormatsRow.holds Tryd.pinned (OpenSpec.ofChange scriptFormatsWrong)

/-- 'unravellaw51.ScriptReturns': WHATEVER THE INPUT: true; the input reads as it did. -/
def scriptReturnsSpec : ChangeSpec := { name := "scriptReturns", fn := fun _ => fun
  | [d1, d2] => { results := [.lit (.bool true)], args := [d1, d2] }
  | _ => none }
def scriptReturnsRow : OpenClaim := { program := "ytpmegcgmbhhfaaadoor", sum := "7195d729110f761c2c18cbdde2a203ad019621cbe0b36eb2f23bb8b854aeb144", func := "unravel/unravellaw51.ScriptReturns", spec := "scriptReturns", inPlace := ["internal/bytealg.IndexByteString", "internal/bytealg.IndexString", "internal/abi.NoEscape"], unfollowed := true, recurses := true, named := ["internal/bytealg.MaxLen", "unicode/utf8.first", "unicode/utf8.acceptRanges"], apart := false, laid := [("unicode/utf8.acceptRanges", laid_unicode_utf8_acceptRanges), ("unicode/utf8.first", laid_unicode_utf8_first)] }
def ScriptReturnsSaid : Prop := scriptReturnsRow.holds Tryd.pinned (OpenSpec.ofChange scriptReturnsSpec)

/-- ITS FALSE NEIGHBOUR: 'it returns false'. Refute it at one input. -/
def scriptReturnsWrong : ChangeSpec := { name := "scriptReturns", fn := fun _ => fun
  | [d1, d2] => { results := [.lit (.bool false)], args := [d1, d2] }
  | _ => none }
def ScriptReturnsWrongFalsely : Prop := scriptReturnsRow.holds Tryd.pinned (OpenSpec.ofChange scriptReturnsWrong)

/-- 'unravellaw51.ScriptLines': WHATEVER THE INPUT: true; the input reads as it did. -/
def scriptLinesSpec : ChangeSpec := { name := "scriptLines", fn := fun _ => fun
  | [d1, d2] => { results := [.lit (.bool true)], args := [d1, d2] }
  | _ => none }
def scriptLinesRow : OpenClaim := { program := "ytpmegcgmbhhfaaadoor", sum := "7195d729110f761c2c18cbdde2a203ad019621cbe0b36eb2f23bb8b854aeb144", func := "unravel/unravellaw51.ScriptLines", spec := "scriptLines", inPlace := ["internal/bytealg.IndexByteString", "internal/bytealg.IndexString", "internal/abi.NoEscape", "internal/bytealg.CountString", "internal/bytealg.MakeNoZero"], named := ["internal/bytealg.MaxLen", "unicode/utf8.first", "unicode/utf8.acceptRanges"], apart := false, laid := [("unicode/utf8.acceptRanges", laid_unicode_utf8_acceptRanges), ("unicode/utf8.first", laid_unicode_utf8_first)] }
def ScriptLinesSaid : Prop := scriptLinesRow.holds Tryd.pinned (OpenSpec.ofChange scriptLinesSpec)

/-- ITS FALSE NEIGHBOUR: 'it returns false'. Refute it at one input. -/
def scriptLinesWrong : ChangeSpec := { name := "scriptLines", fn := fun _ => fun
  | [d1, d2] => { results := [.lit (.bool false)], args := [d1, d2] }
  | _ => none }
def ScriptLinesWrongFalsely : Prop := scriptLinesRow.holds Tryd.pinned (OpenSpec.ofChange scriptLinesWrong)

/-- 'unravellaw51.ScriptQuotes': WHATEVER THE INPUT: true; the input reads as it did. -/
def scriptQuotesSpec : ChangeSpec := { name := "scriptQuotes", fn := fun _ => fun
  | [d1, d2] => { results := [.lit (.bool true)], args := [d1, d2] }
  | _ => none }
def scriptQuotesRow : OpenClaim := { program := "ytpmegcgmbhhfaaadoor", sum := "7195d729110f761c2c18cbdde2a203ad019621cbe0b36eb2f23bb8b854aeb144", func := "unravel/unravellaw51.ScriptQuotes", spec := "scriptQuotes", inPlace := ["internal/bytealg.IndexByteString", "internal/bytealg.IndexString", "internal/abi.NoEscape", "internal/bytealg.MakeNoZero", "internal/bytealg.CountString"], unfollowed := true, recurses := true, named := ["internal/bytealg.MaxLen", "unicode/utf8.first", "unicode/utf8.acceptRanges"], apart := false, laid := [("unicode/utf8.acceptRanges", laid_unicode_utf8_acceptRanges), ("unicode/utf8.first", laid_unicode_utf8_first)] }
def ScriptQuotesSaid : Prop := scriptQuotesRow.holds Tryd.pinned (OpenSpec.ofChange scriptQuotesSpec)

/-- ITS FALSE NEIGHBOUR: 'it returns false'. Refute it at one input. -/
def scriptQuotesWrong : ChangeSpec := { name := "scriptQuotes", fn := fun _ => fun
  | [d1, d2] => { results := [.lit (.bool false)], args := [d1, d2] }
  | _ => none }
def ScriptQuotesWrongFalsely : Prop := scriptQuotesRow.holds Tryd.pinned (OpenSpec.ofChange scriptQuotesWrong)

/-- 'unravellaw51.ScriptSpaces': WHATEVER THE INPUT: true; the input reads as it did. -/
def scriptSpacesSpec : ChangeSpec := { name := "scriptSpaces", fn := fun _ => fun
  | [d1, d2] => { results := [.lit (.bool true)], args := [d1, d2] }
  | _ => none }
def scriptSpacesRow : OpenClaim := { program := "ytpmegcgmbhhfaaadoor", sum := "7195d729110f761c2c18cbdde2a203ad019621cbe0b36eb2f23bb8b854aeb144", func := "unravel/unravellaw51.ScriptSpaces", spec := "scriptSpaces", inPlace := ["internal/bytealg.IndexByteString", "internal/bytealg.IndexString", "internal/abi.NoEscape", "internal/bytealg.CountString", "internal/bytealg.MakeNoZero"], unfollowed := true, recurses := true, named := ["internal/bytealg.MaxLen", "unicode/utf8.first", "unicode/utf8.acceptRanges"], apart := false, laid := [("unicode/utf8.acceptRanges", laid_unicode_utf8_acceptRanges), ("unicode/utf8.first", laid_unicode_utf8_first)] }
def ScriptSpacesSaid : Prop := scriptSpacesRow.holds Tryd.pinned (OpenSpec.ofChange scriptSpacesSpec)

/-- ITS FALSE NEIGHBOUR: 'it returns false'. Refute it at one input. -/
def scriptSpacesWrong : ChangeSpec := { name := "scriptSpaces", fn := fun _ => fun
  | [d1, d2] => { results := [.lit (.bool false)], args := [d1, d2] }
  | _ => none }
def ScriptSpacesWrongFalsely : Prop := scriptSpacesRow.holds Tryd.pinned (OpenSpec.ofChange scriptSpacesWrong)

/- THE SECOND FORM. 'bulk': how many values and letters a reading holds, each counted each time it is reached (what is shared counts as often as it is met; a slice's spare places count too). A statement '..UptoSaid' is the law's where the arguments, and the package variables that the reading takes, are together of bulk at most 1048576: NARROWER than '..Said'. Prove '..Said' where nothing that the law and all that it calls make is longer than what came in: it says more and counts as full. Else prove '..UptoSaid'. A law counts once. -/
mutual
def uptoBulk {H : Type} : DataW H → Nat
  | .lit (.string bytes) => bytes.length + 1
  | .lit _ => 1
  | .nil => 1
  | .ptr d => uptoBulk d + 1
  | .slice elems spare => uptoBulkAll elems + uptoBulkAll spare + 1
  | .agg parts => uptoBulkAll parts + 1
  | .iface _ d => uptoBulk d + 1
  | .map entries => uptoBulkEntries entries + 1
  | .held _ => 1
def uptoBulkAll {H : Type} : List (DataW H) → Nat
  | [] => 0
  | d :: r => uptoBulk d + uptoBulkAll r
def uptoBulkEntries {H : Type} : List (Lit × DataW H) → Nat
  | [] => 0
  | x :: r => uptoBulkEntry x + uptoBulkEntries r
def uptoBulkEntry {H : Type} : Lit × DataW H → Nat
  | (.string bytes, d) => bytes.length + uptoBulk d + 1
  | (_, d) => uptoBulk d + 1
 end
def uptoSmall : (H : Type) → List (DataW H) → Bool := fun _ ds => decide (uptoBulkAll ds ≤ 1048576)
def OpenSpec.upto (s : _root_.Go.ChangeSpec) : _root_.Go.OpenSpec := { _root_.Go.OpenSpec.ofChange s with cond := some uptoSmall }

/-- 'unravellaw51.ScriptValid', WHERE WHAT IT READS IS OF BULK AT MOST 1048576: true; the input reads as it did. -/
def scriptValidUptoRow : OpenClaim := { program := "ytpmegcgmbhhfaaadoor", sum := "7195d729110f761c2c18cbdde2a203ad019621cbe0b36eb2f23bb8b854aeb144", func := "unravel/unravellaw51.ScriptValid", spec := "scriptValid", inPlace := ["internal/bytealg.IndexByteString", "internal/bytealg.IndexString", "internal/abi.NoEscape"], named := ["internal/bytealg.MaxLen", "unicode/utf8.first", "unicode/utf8.acceptRanges"], apart := false, laid := [("unicode/utf8.acceptRanges", laid_unicode_utf8_acceptRanges), ("unicode/utf8.first", laid_unicode_utf8_first)], narrowed := true }
def ScriptValidUptoSaid : Prop := scriptValidUptoRow.holds Tryd.pinned (OpenSpec.upto scriptValidSpec)

/-- 'unravellaw51.ScriptFormats', WHERE WHAT IT READS IS OF BULK AT MOST 1048576: true; the input reads as it did. -/
def scriptFormatsUptoRow : OpenClaim := { program := "ytpmegcgmbhhfaaadoor", sum := "7195d729110f761c2c18cbdde2a203ad019621cbe0b36eb2f23bb8b854aeb144", func := "unravel/unravellaw51.ScriptFormats", spec := "scriptFormats", inPlace := ["internal/bytealg.IndexByteString", "internal/bytealg.IndexString", "internal/abi.NoEscape"], named := ["internal/bytealg.MaxLen", "unicode/utf8.first", "unicode/utf8.acceptRanges"], apart := false, laid := [("unicode/utf8.acceptRanges", laid_unicode_utf8_acceptRanges), ("unicode/utf8.first", laid_unicode_utf8_first)], narrowed := true }
def ScriptFormatsUptoSaid : Prop := scriptFormatsUptoRow.holds Tryd.pinned (OpenSpec.upto scriptFormatsSpec)

/-- 'unravellaw51.ScriptReturns', WHERE WHAT IT READS IS OF BULK AT MOST 1048576: true; the input reads as it did. -/
def scriptReturnsUptoRow : OpenClaim := { program := "ytpmegcgmbhhfaaadoor", sum := "7195d729110f761c2c18cbdde2a203ad019621cbe0b36eb2f23bb8b854aeb144", func := "unravel/unravellaw51.ScriptReturns", spec := "scriptReturns", inPlace := ["internal/bytealg.IndexByteString", "internal/bytealg.IndexString", "internal/abi.NoEscape"], unfollowed := true, recurses := true, named := ["internal/bytealg.MaxLen", "unicode/utf8.first", "unicode/utf8.acceptRanges"], apart := false, laid := [("unicode/utf8.acceptRanges", laid_unicode_utf8_acceptRanges), ("unicode/utf8.first", laid_unicode_utf8_first)], narrowed := true }
def ScriptReturnsUptoSaid : Prop := scriptReturnsUptoRow.holds Tryd.pinned (OpenSpec.upto scriptReturnsSpec)

/-- 'unravellaw51.ScriptLines', WHERE WHAT IT READS IS OF BULK AT MOST 1048576: true; the input reads as it did. -/
def scriptLinesUptoRow : OpenClaim := { program := "ytpmegcgmbhhfaaadoor", sum := "7195d729110f761c2c18cbdde2a203ad019621cbe0b36eb2f23bb8b854aeb144", func := "unravel/unravellaw51.ScriptLines", spec := "scriptLines", inPlace := ["internal/bytealg.IndexByteString", "internal/bytealg.IndexString", "internal/abi.NoEscape", "internal/bytealg.CountString", "internal/bytealg.MakeNoZero"], named := ["internal/bytealg.MaxLen", "unicode/utf8.first", "unicode/utf8.acceptRanges"], apart := false, laid := [("unicode/utf8.acceptRanges", laid_unicode_utf8_acceptRanges), ("unicode/utf8.first", laid_unicode_utf8_first)], narrowed := true }
def ScriptLinesUptoSaid : Prop := scriptLinesUptoRow.holds Tryd.pinned (OpenSpec.upto scriptLinesSpec)

/-- 'unravellaw51.ScriptQuotes', WHERE WHAT IT READS IS OF BULK AT MOST 1048576: true; the input reads as it did. -/
def scriptQuotesUptoRow : OpenClaim := { program := "ytpmegcgmbhhfaaadoor", sum := "7195d729110f761c2c18cbdde2a203ad019621cbe0b36eb2f23bb8b854aeb144", func := "unravel/unravellaw51.ScriptQuotes", spec := "scriptQuotes", inPlace := ["internal/bytealg.IndexByteString", "internal/bytealg.IndexString", "internal/abi.NoEscape", "internal/bytealg.MakeNoZero", "internal/bytealg.CountString"], unfollowed := true, recurses := true, named := ["internal/bytealg.MaxLen", "unicode/utf8.first", "unicode/utf8.acceptRanges"], apart := false, laid := [("unicode/utf8.acceptRanges", laid_unicode_utf8_acceptRanges), ("unicode/utf8.first", laid_unicode_utf8_first)], narrowed := true }
def ScriptQuotesUptoSaid : Prop := scriptQuotesUptoRow.holds Tryd.pinned (OpenSpec.upto scriptQuotesSpec)

/-- 'unravellaw51.ScriptSpaces', WHERE WHAT IT READS IS OF BULK AT MOST 1048576: true; the input reads as it did. -/
def scriptSpacesUptoRow : OpenClaim := { program := "ytpmegcgmbhhfaaadoor", sum := "7195d729110f761c2c18cbdde2a203ad019621cbe0b36eb2f23bb8b854aeb144", func := "unravel/unravellaw51.ScriptSpaces", spec := "scriptSpaces", inPlace := ["internal/bytealg.IndexByteString", "internal/bytealg.IndexString", "internal/abi.NoEscape", "internal/bytealg.CountString", "internal/bytealg.MakeNoZero"], unfollowed := true, recurses := true, named := ["internal/bytealg.MaxLen", "unicode/utf8.first", "unicode/utf8.acceptRanges"], apart := false, laid := [("unicode/utf8.acceptRanges", laid_unicode_utf8_acceptRanges), ("unicode/utf8.first", laid_unicode_utf8_first)], narrowed := true }
def ScriptSpacesUptoSaid : Prop := scriptSpacesUptoRow.holds Tryd.pinned (OpenSpec.upto scriptSpacesSpec)

end Rows
end Go.Proofs.YtpmegcgmbhhfaaaDoor
