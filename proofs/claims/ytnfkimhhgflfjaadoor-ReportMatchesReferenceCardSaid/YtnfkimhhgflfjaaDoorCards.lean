/-
  DERIVED. GIVEN WITH THE SEED: THE CARDS: each row of YtnfkimhhgflfjaaDoorRows.lean that lists a variable, with what it lists TIED to the program's text (the seventh form; the later family's looks); each row that meets fmt, with fmt's text TOLD by the authors' own Lean function (tested against real Go, not proved from fmt's source: count such statements apart). THE CARD IS WHAT COUNTS. Prove the row's statement (the work); the ties are given (YtnfkimhhgflfjaaDoorTie.lean); close each card by the builder's one call (the guide's Derived/Test/ToyasCard.lean, 'card_holds'). Laid BY PROGRAM, IN A SANDBOX (cutbox-door.mjs). By AI agents, Wed Nov 11 2026. No macro, syntax, notation, axiom, sorry.
-/
import Derived.Test.YtnfkimhhgflfjaaDoorRows
import GoSem.ClaimSeven
namespace Go.Proofs.YtnfkimhhgflfjaaDoor
namespace Rows

/-- THE TIED CARD OF 'gaolerlaw28.ReportMatchesReference'. -/
def reportMatchesReferenceCard : Claim7 := { stood := { row := reportMatchesReferenceRow, standIns := [], harness := (true, "ba6931d6e419cf7c43c82aa1839199219df2a3064831d1e3dee3349ca76aacb1"), looks := true }, kinds := [], alts := [], laidByText := true, laidKinds := [.data, .data, .data, .data, .sentinel, .sentinel, .widerDeep, .pinned], laidTests := true, laidLooks := .later }
def ReportMatchesReferenceCardSaid : Prop := Claim7.holds Tryd.pinned (.plain (OpenSpec.ofChange reportMatchesReferenceSpec)) reportMatchesReferenceCard

/-- THE TIED CARD OF 'gaolerlaw28.ReportParseFormatted'. -/
def reportParseFormattedCard : Claim7 := { stood := { row := reportParseFormattedRow, standIns := [], harness := (true, "ba6931d6e419cf7c43c82aa1839199219df2a3064831d1e3dee3349ca76aacb1"), looks := true }, kinds := [], alts := [], laidByText := true, laidKinds := [.data, .data, .data, .data, .sentinel, .sentinel, .widerDeep, .pinned], laidTests := true, laidLooks := .later }
def ReportParseFormattedCardSaid : Prop := Claim7.holds Tryd.pinned (.plain (OpenSpec.ofChange reportParseFormattedSpec)) reportParseFormattedCard

/-- THE TIED CARD OF 'gaolerlaw28.ReportLines'. -/
def reportLinesCard : Claim7 := { stood := { row := reportLinesRow, standIns := [], harness := (true, "ba6931d6e419cf7c43c82aa1839199219df2a3064831d1e3dee3349ca76aacb1"), looks := true }, kinds := [], alts := [], laidByText := true, laidKinds := [.data, .data, .data, .data, .sentinel, .sentinel, .widerDeep, .pinned], laidTests := true, laidLooks := .later }
def ReportLinesCardSaid : Prop := Claim7.holds Tryd.pinned (.plain (OpenSpec.ofChange reportLinesSpec)) reportLinesCard

/-- THE SECOND FORM's CARD OF 'gaolerlaw28.ReportMatchesReference'. -/
def reportMatchesReferenceUptoCard : Claim7 := { stood := { row := reportMatchesReferenceUptoRow, standIns := [], harness := (true, "ba6931d6e419cf7c43c82aa1839199219df2a3064831d1e3dee3349ca76aacb1"), looks := true }, kinds := [], alts := [], laidByText := true, laidKinds := [.data, .data, .data, .data, .sentinel, .sentinel, .widerDeep, .pinned], laidTests := true, laidLooks := .later }
def ReportMatchesReferenceUptoCardSaid : Prop := Claim7.holds Tryd.pinned (.plain (OpenSpec.upto reportMatchesReferenceSpec)) reportMatchesReferenceUptoCard

/-- THE SECOND FORM's CARD OF 'gaolerlaw28.ReportParseFormatted'. -/
def reportParseFormattedUptoCard : Claim7 := { stood := { row := reportParseFormattedUptoRow, standIns := [], harness := (true, "ba6931d6e419cf7c43c82aa1839199219df2a3064831d1e3dee3349ca76aacb1"), looks := true }, kinds := [], alts := [], laidByText := true, laidKinds := [.data, .data, .data, .data, .sentinel, .sentinel, .widerDeep, .pinned], laidTests := true, laidLooks := .later }
def ReportParseFormattedUptoCardSaid : Prop := Claim7.holds Tryd.pinned (.plain (OpenSpec.upto reportParseFormattedSpec)) reportParseFormattedUptoCard

/-- THE SECOND FORM's CARD OF 'gaolerlaw28.ReportLines'. -/
def reportLinesUptoCard : Claim7 := { stood := { row := reportLinesUptoRow, standIns := [], harness := (true, "ba6931d6e419cf7c43c82aa1839199219df2a3064831d1e3dee3349ca76aacb1"), looks := true }, kinds := [], alts := [], laidByText := true, laidKinds := [.data, .data, .data, .data, .sentinel, .sentinel, .widerDeep, .pinned], laidTests := true, laidLooks := .later }
def ReportLinesUptoCardSaid : Prop := Claim7.holds Tryd.pinned (.plain (OpenSpec.upto reportLinesSpec)) reportLinesUptoCard
end Rows
end Go.Proofs.YtnfkimhhgflfjaaDoor
