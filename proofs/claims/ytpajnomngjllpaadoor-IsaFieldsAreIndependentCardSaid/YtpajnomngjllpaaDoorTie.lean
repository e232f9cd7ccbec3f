/-
  DERIVED. GIVEN WITH THE SEED: THE PROGRAM's TIES (one call each: nine closed facts by the kernel) AND EACH ROW's TIE, after the 31st guide's Derived/Test/Toyas{Tie, Card}.lean. No idea stands in it: it is a product of the set-up. Laid BY PROGRAM, IN A SANDBOX (cutbox-door.mjs). By AI agents, Wed Nov 11 2026. No macro, syntax, notation, axiom, sorry.
-/
import Derived.Test.YtpajnomngjllpaaDoorRows
import Derived.LaidByTextLater
import Derived.SevenTiedAt
import Derived.LaidSub
import Derived.LaidOnce
namespace Go.Proofs.YtpajnomngjllpaaDoor
open Go
set_option maxRecDepth 100000
theorem seatTie1 : Tryd.prog.laidByTextLater [("gaoler/isa.forms", Rows.laid_gaoler_isa_forms), ("gaoler/isa.parts", Rows.laid_gaoler_isa_parts)] [.data, .data] true :=
  Program.laidByTextLater_by_one 26 8 41 (by kernel_rfl) (by kernel_rfl) (by kernel_rfl) (by kernel_rfl) (by kernel_rfl) (by kernel_rfl) (fun _ _ => by kernel_rfl)
theorem noOwnUnsafe : Tryd.pinned.checked.prog.headLifts.contains "ownunsafe" = false := by kernel_rfl
theorem tie : Tryd.prog.laidByTextLater [("gaoler/isa.forms", Rows.laid_gaoler_isa_forms), ("gaoler/isa.parts", Rows.laid_gaoler_isa_parts)] [.data, .data] true :=
  Program.laidByTextLater.sub seatTie1 ["gaoler/isa.forms", "gaoler/isa.parts"] (by kernel_rfl) (by kernel_rfl)
theorem isaMatchesReference_row_tie : Rows.isaMatchesReferenceRow.laidByTextAt .later Tryd.pinned [.data, .data] true :=
  OpenClaim.laidByTextAt_later rfl rfl tie noOwnUnsafe
theorem isaDecodeEncodeRoundTrip_row_tie : Rows.isaDecodeEncodeRoundTripRow.laidByTextAt .later Tryd.pinned [.data, .data] true :=
  OpenClaim.laidByTextAt_later rfl rfl tie noOwnUnsafe
theorem isaUnusedBitsMustBeZero_row_tie : Rows.isaUnusedBitsMustBeZeroRow.laidByTextAt .later Tryd.pinned [.data, .data] true :=
  OpenClaim.laidByTextAt_later rfl rfl tie noOwnUnsafe
theorem isaTwentyFiveOpcodes_row_tie : Rows.isaTwentyFiveOpcodesRow.laidByTextAt .later Tryd.pinned [.data, .data] true :=
  OpenClaim.laidByTextAt_later rfl rfl tie noOwnUnsafe
theorem isaFieldsAreIndependent_row_tie : Rows.isaFieldsAreIndependentRow.laidByTextAt .later Tryd.pinned [.data, .data] true :=
  OpenClaim.laidByTextAt_later rfl rfl tie noOwnUnsafe
theorem isaMatchesReferenceUpto_row_tie : Rows.isaMatchesReferenceUptoRow.laidByTextAt .later Tryd.pinned [.data, .data] true :=
  OpenClaim.laidByTextAt_later rfl rfl tie noOwnUnsafe
theorem isaDecodeEncodeRoundTripUpto_row_tie : Rows.isaDecodeEncodeRoundTripUptoRow.laidByTextAt .later Tryd.pinned [.data, .data] true :=
  OpenClaim.laidByTextAt_later rfl rfl tie noOwnUnsafe
theorem isaUnusedBitsMustBeZeroUpto_row_tie : Rows.isaUnusedBitsMustBeZeroUptoRow.laidByTextAt .later Tryd.pinned [.data, .data] true :=
  OpenClaim.laidByTextAt_later rfl rfl tie noOwnUnsafe
theorem isaTwentyFiveOpcodesUpto_row_tie : Rows.isaTwentyFiveOpcodesUptoRow.laidByTextAt .later Tryd.pinned [.data, .data] true :=
  OpenClaim.laidByTextAt_later rfl rfl tie noOwnUnsafe
theorem isaFieldsAreIndependentUpto_row_tie : Rows.isaFieldsAreIndependentUptoRow.laidByTextAt .later Tryd.pinned [.data, .data] true :=
  OpenClaim.laidByTextAt_later rfl rfl tie noOwnUnsafe
end Go.Proofs.YtpajnomngjllpaaDoor
