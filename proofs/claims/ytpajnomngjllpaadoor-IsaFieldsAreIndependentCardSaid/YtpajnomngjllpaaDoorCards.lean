/-
  DERIVED. GIVEN WITH THE SEED: THE CARDS: each row of YtpajnomngjllpaaDoorRows.lean that lists a variable, with what it lists TIED to the program's text (the seventh form; the later family's looks); each row that meets fmt, with fmt's text TOLD by the authors' own Lean function (tested against real Go, not proved from fmt's source: count such statements apart). THE CARD IS WHAT COUNTS. Prove the row's statement (the work); the ties are given (YtpajnomngjllpaaDoorTie.lean); close each card by the builder's one call (the guide's Derived/Test/ToyasCard.lean, 'card_holds'). Laid BY PROGRAM, IN A SANDBOX (cutbox-door.mjs). By AI agents, Wed Nov 11 2026. No macro, syntax, notation, axiom, sorry.
-/
import Derived.Test.YtpajnomngjllpaaDoorRows
import GoSem.ClaimSeven
namespace Go.Proofs.YtpajnomngjllpaaDoor
namespace Rows

/-- THE TIED CARD OF 'gaolerlaw02.IsaMatchesReference'. -/
def isaMatchesReferenceCard : Claim7 := { stood := { row := isaMatchesReferenceRow, standIns := [], harness := (true, "8f4c7553a649a31191c80203694d133739bf525f6047329ed1e10595af5d955f"), looks := false }, kinds := [], alts := [], laidByText := true, laidKinds := [.data, .data], laidTests := true, laidLooks := .later }
def IsaMatchesReferenceCardSaid : Prop := Claim7.holds Tryd.pinned (.plain (OpenSpec.ofChange isaMatchesReferenceSpec)) isaMatchesReferenceCard

/-- THE TIED CARD OF 'gaolerlaw02.IsaDecodeEncodeRoundTrip'. -/
def isaDecodeEncodeRoundTripCard : Claim7 := { stood := { row := isaDecodeEncodeRoundTripRow, standIns := [], harness := (true, "8f4c7553a649a31191c80203694d133739bf525f6047329ed1e10595af5d955f"), looks := false }, kinds := [], alts := [], laidByText := true, laidKinds := [.data, .data], laidTests := true, laidLooks := .later }
def IsaDecodeEncodeRoundTripCardSaid : Prop := Claim7.holds Tryd.pinned (.plain (OpenSpec.ofChange isaDecodeEncodeRoundTripSpec)) isaDecodeEncodeRoundTripCard

/-- THE TIED CARD OF 'gaolerlaw02.IsaUnusedBitsMustBeZero'. -/
def isaUnusedBitsMustBeZeroCard : Claim7 := { stood := { row := isaUnusedBitsMustBeZeroRow, standIns := [], harness := (true, "8f4c7553a649a31191c80203694d133739bf525f6047329ed1e10595af5d955f"), looks := false }, kinds := [], alts := [], laidByText := true, laidKinds := [.data, .data], laidTests := true, laidLooks := .later }
def IsaUnusedBitsMustBeZeroCardSaid : Prop := Claim7.holds Tryd.pinned (.plain (OpenSpec.ofChange isaUnusedBitsMustBeZeroSpec)) isaUnusedBitsMustBeZeroCard

/-- THE TIED CARD OF 'gaolerlaw02.IsaTwentyFiveOpcodes'. -/
def isaTwentyFiveOpcodesCard : Claim7 := { stood := { row := isaTwentyFiveOpcodesRow, standIns := [], harness := (true, "8f4c7553a649a31191c80203694d133739bf525f6047329ed1e10595af5d955f"), looks := false }, kinds := [], alts := [], laidByText := true, laidKinds := [.data, .data], laidTests := true, laidLooks := .later }
def IsaTwentyFiveOpcodesCardSaid : Prop := Claim7.holds Tryd.pinned (.plain (OpenSpec.ofChange isaTwentyFiveOpcodesSpec)) isaTwentyFiveOpcodesCard

/-- THE TIED CARD OF 'gaolerlaw02.IsaFieldsAreIndependent'. -/
def isaFieldsAreIndependentCard : Claim7 := { stood := { row := isaFieldsAreIndependentRow, standIns := [], harness := (true, "8f4c7553a649a31191c80203694d133739bf525f6047329ed1e10595af5d955f"), looks := false }, kinds := [], alts := [], laidByText := true, laidKinds := [.data, .data], laidTests := true, laidLooks := .later }
def IsaFieldsAreIndependentCardSaid : Prop := Claim7.holds Tryd.pinned (.plain (OpenSpec.ofChange isaFieldsAreIndependentSpec)) isaFieldsAreIndependentCard

/-- THE SECOND FORM's CARD OF 'gaolerlaw02.IsaMatchesReference'. -/
def isaMatchesReferenceUptoCard : Claim7 := { stood := { row := isaMatchesReferenceUptoRow, standIns := [], harness := (true, "8f4c7553a649a31191c80203694d133739bf525f6047329ed1e10595af5d955f"), looks := false }, kinds := [], alts := [], laidByText := true, laidKinds := [.data, .data], laidTests := true, laidLooks := .later }
def IsaMatchesReferenceUptoCardSaid : Prop := Claim7.holds Tryd.pinned (.plain (OpenSpec.upto isaMatchesReferenceSpec)) isaMatchesReferenceUptoCard

/-- THE SECOND FORM's CARD OF 'gaolerlaw02.IsaDecodeEncodeRoundTrip'. -/
def isaDecodeEncodeRoundTripUptoCard : Claim7 := { stood := { row := isaDecodeEncodeRoundTripUptoRow, standIns := [], harness := (true, "8f4c7553a649a31191c80203694d133739bf525f6047329ed1e10595af5d955f"), looks := false }, kinds := [], alts := [], laidByText := true, laidKinds := [.data, .data], laidTests := true, laidLooks := .later }
def IsaDecodeEncodeRoundTripUptoCardSaid : Prop := Claim7.holds Tryd.pinned (.plain (OpenSpec.upto isaDecodeEncodeRoundTripSpec)) isaDecodeEncodeRoundTripUptoCard

/-- THE SECOND FORM's CARD OF 'gaolerlaw02.IsaUnusedBitsMustBeZero'. -/
def isaUnusedBitsMustBeZeroUptoCard : Claim7 := { stood := { row := isaUnusedBitsMustBeZeroUptoRow, standIns := [], harness := (true, "8f4c7553a649a31191c80203694d133739bf525f6047329ed1e10595af5d955f"), looks := false }, kinds := [], alts := [], laidByText := true, laidKinds := [.data, .data], laidTests := true, laidLooks := .later }
def IsaUnusedBitsMustBeZeroUptoCardSaid : Prop := Claim7.holds Tryd.pinned (.plain (OpenSpec.upto isaUnusedBitsMustBeZeroSpec)) isaUnusedBitsMustBeZeroUptoCard

/-- THE SECOND FORM's CARD OF 'gaolerlaw02.IsaTwentyFiveOpcodes'. -/
def isaTwentyFiveOpcodesUptoCard : Claim7 := { stood := { row := isaTwentyFiveOpcodesUptoRow, standIns := [], harness := (true, "8f4c7553a649a31191c80203694d133739bf525f6047329ed1e10595af5d955f"), looks := false }, kinds := [], alts := [], laidByText := true, laidKinds := [.data, .data], laidTests := true, laidLooks := .later }
def IsaTwentyFiveOpcodesUptoCardSaid : Prop := Claim7.holds Tryd.pinned (.plain (OpenSpec.upto isaTwentyFiveOpcodesSpec)) isaTwentyFiveOpcodesUptoCard

/-- THE SECOND FORM's CARD OF 'gaolerlaw02.IsaFieldsAreIndependent'. -/
def isaFieldsAreIndependentUptoCard : Claim7 := { stood := { row := isaFieldsAreIndependentUptoRow, standIns := [], harness := (true, "8f4c7553a649a31191c80203694d133739bf525f6047329ed1e10595af5d955f"), looks := false }, kinds := [], alts := [], laidByText := true, laidKinds := [.data, .data], laidTests := true, laidLooks := .later }
def IsaFieldsAreIndependentUptoCardSaid : Prop := Claim7.holds Tryd.pinned (.plain (OpenSpec.upto isaFieldsAreIndependentSpec)) isaFieldsAreIndependentUptoCard
end Rows
end Go.Proofs.YtpajnomngjllpaaDoor
