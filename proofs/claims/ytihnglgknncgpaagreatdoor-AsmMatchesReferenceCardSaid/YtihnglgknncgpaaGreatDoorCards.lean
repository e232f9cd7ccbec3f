/-
  DERIVED. GIVEN WITH THE SEED: THE CARDS: each row of YtihnglgknncgpaaGreatDoorRows.lean that lists a variable, with what it lists TIED to the program's text (the seventh form; the later family's looks); each row that meets fmt, with fmt's text TOLD by the authors' own Lean function (tested against real Go, not proved from fmt's source: count such statements apart). THE CARD IS WHAT COUNTS. Prove the row's statement (the work); the ties are given (YtihnglgknncgpaaGreatDoorTie.lean); close each card by the builder's one call (the guide's Derived/Test/ToyasCard.lean, 'card_holds'). Laid BY PROGRAM, IN A SANDBOX (cutbox-door.mjs). By AI agents, Wed Nov 11 2026. No macro, syntax, notation, axiom, sorry.
-/
import Derived.Test.YtihnglgknncgpaaGreatDoorRows
import GoSem.ClaimSeven
namespace Go.Proofs.YtihnglgknncgpaaGreatDoor
namespace Rows

/-- THE TIED CARD OF 'gaolerlaw03.AsmEveryWordHasOneLine'. -/
def asmEveryWordHasOneLineCard : Claim7 := { stood := { row := asmEveryWordHasOneLineRow, standIns := [], harness := (true, "f00fc1a9e17a379947d4b6762f6eaa3ea945a05c4bfb56b07425318012895163"), looks := true }, kinds := [], alts := [], laidByText := true, laidKinds := [.data, .data, .data, .data, .data, .data, .sentinel, .sentinel, .data, .pinned], laidTests := true, laidLooks := .later }
def AsmEveryWordHasOneLineCardSaid : Prop := Claim7.holds Tryz.pinned (.plain (OpenSpec.ofChange asmEveryWordHasOneLineSpec)) asmEveryWordHasOneLineCard

/-- THE TIED CARD OF 'gaolerlaw03.AsmMatchesReference'. -/
def asmMatchesReferenceCard : Claim7 := { stood := { row := asmMatchesReferenceRow, standIns := [], harness := (true, "f00fc1a9e17a379947d4b6762f6eaa3ea945a05c4bfb56b07425318012895163"), looks := true }, kinds := [], alts := [], laidByText := true, laidKinds := [.data, .data, .data, .data, .data, .data, .sentinel, .sentinel, .data, .pinned], laidTests := true, laidLooks := .later }
def AsmMatchesReferenceCardSaid : Prop := Claim7.holds Tryz.pinned (.plain (OpenSpec.ofChange asmMatchesReferenceSpec)) asmMatchesReferenceCard

/-- THE SECOND FORM's CARD OF 'gaolerlaw03.AsmEveryWordHasOneLine'. -/
def asmEveryWordHasOneLineUptoCard : Claim7 := { stood := { row := asmEveryWordHasOneLineUptoRow, standIns := [], harness := (true, "f00fc1a9e17a379947d4b6762f6eaa3ea945a05c4bfb56b07425318012895163"), looks := true }, kinds := [], alts := [], laidByText := true, laidKinds := [.data, .data, .data, .data, .data, .data, .sentinel, .sentinel, .data, .pinned], laidTests := true, laidLooks := .later }
def AsmEveryWordHasOneLineUptoCardSaid : Prop := Claim7.holds Tryz.pinned (.plain (OpenSpec.upto asmEveryWordHasOneLineSpec)) asmEveryWordHasOneLineUptoCard

/-- THE SECOND FORM's CARD OF 'gaolerlaw03.AsmMatchesReference'. -/
def asmMatchesReferenceUptoCard : Claim7 := { stood := { row := asmMatchesReferenceUptoRow, standIns := [], harness := (true, "f00fc1a9e17a379947d4b6762f6eaa3ea945a05c4bfb56b07425318012895163"), looks := true }, kinds := [], alts := [], laidByText := true, laidKinds := [.data, .data, .data, .data, .data, .data, .sentinel, .sentinel, .data, .pinned], laidTests := true, laidLooks := .later }
def AsmMatchesReferenceUptoCardSaid : Prop := Claim7.holds Tryz.pinned (.plain (OpenSpec.upto asmMatchesReferenceSpec)) asmMatchesReferenceUptoCard
end Rows
end Go.Proofs.YtihnglgknncgpaaGreatDoor
