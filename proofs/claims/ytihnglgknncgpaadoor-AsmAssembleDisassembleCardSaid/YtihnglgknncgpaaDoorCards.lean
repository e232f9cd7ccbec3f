/-
  DERIVED. GIVEN WITH THE SEED: THE CARDS: each row of YtihnglgknncgpaaDoorRows.lean that lists a variable, with what it lists TIED to the program's text (the seventh form; the later family's looks); each row that meets fmt, with fmt's text TOLD by the authors' own Lean function (tested against real Go, not proved from fmt's source: count such statements apart). THE CARD IS WHAT COUNTS. Prove the row's statement (the work); the ties are given (YtihnglgknncgpaaDoorTie.lean); close each card by the builder's one call (the guide's Derived/Test/ToyasCard.lean, 'card_holds'). Laid BY PROGRAM, IN A SANDBOX (cutbox-door.mjs). By AI agents, Wed Nov 11 2026. No macro, syntax, notation, axiom, sorry.
-/
import Derived.Test.YtihnglgknncgpaaDoorRows
import GoSem.ClaimSeven
namespace Go.Proofs.YtihnglgknncgpaaDoor
namespace Rows

/-- THE TIED CARD OF 'gaolerlaw03.AsmLinesAndErrors'. -/
def asmLinesAndErrorsCard : Claim7 := { stood := { row := asmLinesAndErrorsRow, standIns := [], harness := (true, "80683d10a02949e17421966cd31603de5a79fd53d7a6bce9b0c6962feee9b5f2"), looks := true }, kinds := [], alts := [], laidByText := true, laidKinds := [.data, .data, .data, .data, .data, .data, .sentinel, .sentinel, .data, .pinned], laidTests := true, laidLooks := .later }
def AsmLinesAndErrorsCardSaid : Prop := Claim7.holds Tryd.pinned (.plain (OpenSpec.ofChange asmLinesAndErrorsSpec)) asmLinesAndErrorsCard

/-- THE TIED CARD OF 'gaolerlaw03.AsmAssembleDisassemble'. -/
def asmAssembleDisassembleCard : Claim7 := { stood := { row := asmAssembleDisassembleRow, standIns := [], harness := (true, "80683d10a02949e17421966cd31603de5a79fd53d7a6bce9b0c6962feee9b5f2"), looks := true }, kinds := [], alts := [], laidByText := true, laidKinds := [.data, .data, .data, .data, .data, .data, .sentinel, .sentinel, .data, .pinned], laidTests := true, laidLooks := .later }
def AsmAssembleDisassembleCardSaid : Prop := Claim7.holds Tryd.pinned (.plain (OpenSpec.ofChange asmAssembleDisassembleSpec)) asmAssembleDisassembleCard

/-- THE TIED CARD OF 'gaolerlaw03.AsmParseFormat'. -/
def asmParseFormatCard : Claim7 := { stood := { row := asmParseFormatRow, standIns := [], harness := (true, "80683d10a02949e17421966cd31603de5a79fd53d7a6bce9b0c6962feee9b5f2"), looks := true }, kinds := [], alts := [], laidByText := true, laidKinds := [.data, .data, .data, .data, .data, .data, .sentinel, .sentinel, .data, .pinned], laidTests := true, laidLooks := .later }
def AsmParseFormatCardSaid : Prop := Claim7.holds Tryd.pinned (.plain (OpenSpec.ofChange asmParseFormatSpec)) asmParseFormatCard

/-- THE SECOND FORM's CARD OF 'gaolerlaw03.AsmLinesAndErrors'. -/
def asmLinesAndErrorsUptoCard : Claim7 := { stood := { row := asmLinesAndErrorsUptoRow, standIns := [], harness := (true, "80683d10a02949e17421966cd31603de5a79fd53d7a6bce9b0c6962feee9b5f2"), looks := true }, kinds := [], alts := [], laidByText := true, laidKinds := [.data, .data, .data, .data, .data, .data, .sentinel, .sentinel, .data, .pinned], laidTests := true, laidLooks := .later }
def AsmLinesAndErrorsUptoCardSaid : Prop := Claim7.holds Tryd.pinned (.plain (OpenSpec.upto asmLinesAndErrorsSpec)) asmLinesAndErrorsUptoCard

/-- THE SECOND FORM's CARD OF 'gaolerlaw03.AsmAssembleDisassemble'. -/
def asmAssembleDisassembleUptoCard : Claim7 := { stood := { row := asmAssembleDisassembleUptoRow, standIns := [], harness := (true, "80683d10a02949e17421966cd31603de5a79fd53d7a6bce9b0c6962feee9b5f2"), looks := true }, kinds := [], alts := [], laidByText := true, laidKinds := [.data, .data, .data, .data, .data, .data, .sentinel, .sentinel, .data, .pinned], laidTests := true, laidLooks := .later }
def AsmAssembleDisassembleUptoCardSaid : Prop := Claim7.holds Tryd.pinned (.plain (OpenSpec.upto asmAssembleDisassembleSpec)) asmAssembleDisassembleUptoCard

/-- THE SECOND FORM's CARD OF 'gaolerlaw03.AsmParseFormat'. -/
def asmParseFormatUptoCard : Claim7 := { stood := { row := asmParseFormatUptoRow, standIns := [], harness := (true, "80683d10a02949e17421966cd31603de5a79fd53d7a6bce9b0c6962feee9b5f2"), looks := true }, kinds := [], alts := [], laidByText := true, laidKinds := [.data, .data, .data, .data, .data, .data, .sentinel, .sentinel, .data, .pinned], laidTests := true, laidLooks := .later }
def AsmParseFormatUptoCardSaid : Prop := Claim7.holds Tryd.pinned (.plain (OpenSpec.upto asmParseFormatSpec)) asmParseFormatUptoCard
end Rows
end Go.Proofs.YtihnglgknncgpaaDoor
