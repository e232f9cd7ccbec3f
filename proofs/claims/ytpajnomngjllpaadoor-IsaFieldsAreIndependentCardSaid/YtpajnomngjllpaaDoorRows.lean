/-
  NARROWER THAN 'FOR EVERY INPUT', by the rows' own cells (each row's printed sentence says how): IsaMatchesReference: laid · IsaDecodeEncodeRoundTrip: laid · IsaUnusedBitsMustBeZero: laid · IsaTwentyFiveOpcodes: laid · IsaFieldsAreIndependent: laid.
  DERIVED. THE GIVEN ROWS OF THIS SEAT. 5 by the template 'for every input the law returns true; each argument reads behind the call as it read before'; 0 by the template 'total and deterministic' (their statements: YtpajnomngjllpaaDoorTotals.lean).
  GIVEN WITH THE SEED: the statements are not yours to turn. If you find one false, say at which input.
  Laid BY PROGRAM, IN A SANDBOX (cutbox-rows.mjs): the forced cells as the released guide's own fill.sh prints them over the translation 6b5cfb8ae38480ac… (all of the seat's roots in one cut). By AI agents, Wed Nov 11 2026. No macro, syntax, notation, axiom, sorry.
-/
import Derived.Test.YtpajnomngjllpaaDoorChecked
import GoSem.Claim
import GoSem.ClaimJoined
import GoSem.ClaimMapViews
import Derived.JoinedTies
import Derived.KernelRfl
namespace Go.Proofs.YtpajnomngjllpaaDoor
/- THE CELL 'sum', in the pinned program and in every row, IS THE sha256 OF THE DUMP (.gsa) THAT YtpajnomngjllpaaDoorProg.lean LOADS. Nothing in Lean hashes anything: it is a label: what it is worth is what the hold of that sum in a sandbox is worth. -/
noncomputable def Tryd.pinned : Pinned := { name := "ytpajnomngjllpaadoor", sum := "6b5cfb8ae38480ac63a8d1fb6c2623cd5e29ba2aec07a5fe46ce032219e1ee3e", checked := Tryd.checked }
namespace Rows
def none {H : Type} : Left H := { results := [], args := [] }

/- WHAT THE LISTED PACKAGE-LEVEL VARIABLES READ AS WHEN THE CALL BEGINS. Each datum BY PROGRAM (the guide's laid-datum.mjs) off the statement by which the dump's own 'gosem.cut.vars' lays the variable. In a bare row this is a premise. The card (YtpajnomngjllpaaDoorCards.lean) ties it to the program's text. -/
def laid_gaoler_isa_forms {H : Type} : DataW H := .agg [.lit (.int .i64 0), .lit (.int .i64 1), .lit (.int .i64 1), .lit (.int .i64 1), .lit (.int .i64 1), .lit (.int .i64 1), .lit (.int .i64 1), .lit (.int .i64 1), .lit (.int .i64 1), .lit (.int .i64 2), .lit (.int .i64 3), .lit (.int .i64 2), .lit (.int .i64 2), .lit (.int .i64 2), .lit (.int .i64 2), .lit (.int .i64 2), .lit (.int .i64 2), .lit (.int .i64 2), .lit (.int .i64 3), .lit (.int .i64 2), .lit (.int .i64 4), .lit (.int .i64 5), .lit (.int .i64 6), .lit (.int .i64 4), .lit (.int .i64 4), .lit (.int .i64 7)]
def laid_gaoler_isa_parts {H : Type} : DataW H := .agg [.agg [.lit (.bool false), .lit (.bool false), .lit (.bool false), .lit (.bool false), .lit (.bool false)], .agg [.lit (.bool true), .lit (.bool true), .lit (.bool true), .lit (.bool false), .lit (.bool false)], .agg [.lit (.bool true), .lit (.bool true), .lit (.bool false), .lit (.bool true), .lit (.bool false)], .agg [.lit (.bool true), .lit (.bool false), .lit (.bool false), .lit (.bool true), .lit (.bool false)], .agg [.lit (.bool false), .lit (.bool false), .lit (.bool false), .lit (.bool false), .lit (.bool false)], .agg [.lit (.bool true), .lit (.bool false), .lit (.bool false), .lit (.bool false), .lit (.bool true)], .agg [.lit (.bool false), .lit (.bool true), .lit (.bool false), .lit (.bool false), .lit (.bool true)], .agg [.lit (.bool false), .lit (.bool true), .lit (.bool false), .lit (.bool false), .lit (.bool false)]]

/-- 'gaolerlaw02.IsaMatchesReference': WHATEVER THE INPUT: true; the input reads as it did. -/
def isaMatchesReferenceSpec : ChangeSpec := { name := "isaMatchesReference", fn := fun _ => fun
  | [d1, d2, d3] => { results := [.lit (.bool true)], args := [d1, d2, d3] }
  | _ => none }
def isaMatchesReferenceRow : OpenClaim := { program := "ytpajnomngjllpaadoor", sum := "6b5cfb8ae38480ac63a8d1fb6c2623cd5e29ba2aec07a5fe46ce032219e1ee3e", func := "gaoler/gaolerlaw02.IsaMatchesReference", spec := "isaMatchesReference", named := ["gaoler/isa.parts", "gaoler/isa.forms"], apart := false, laid := [("gaoler/isa.forms", laid_gaoler_isa_forms), ("gaoler/isa.parts", laid_gaoler_isa_parts)] }
def IsaMatchesReferenceSaid : Prop := isaMatchesReferenceRow.holds Tryd.pinned (OpenSpec.ofChange isaMatchesReferenceSpec)

/-- ITS FALSE NEIGHBOUR: 'it returns false'. Refute it at one input. -/
def isaMatchesReferenceWrong : ChangeSpec := { name := "isaMatchesReference", fn := fun _ => fun
  | [d1, d2, d3] => { results := [.lit (.bool false)], args := [d1, d2, d3] }
  | _ => none }
def IsaMatchesReferenceWrongFalsely : Prop := isaMatchesReferenceRow.holds Tryd.pinned (OpenSpec.ofChange isaMatchesReferenceWrong)

/-- 'gaolerlaw02.IsaDecodeEncodeRoundTrip': WHATEVER THE INPUT: true; the input reads as it did. -/
def isaDecodeEncodeRoundTripSpec : ChangeSpec := { name := "isaDecodeEncodeRoundTrip", fn := fun _ => fun
  | [d1, d2, d3] => { results := [.lit (.bool true)], args := [d1, d2, d3] }
  | _ => none }
def isaDecodeEncodeRoundTripRow : OpenClaim := { program := "ytpajnomngjllpaadoor", sum := "6b5cfb8ae38480ac63a8d1fb6c2623cd5e29ba2aec07a5fe46ce032219e1ee3e", func := "gaoler/gaolerlaw02.IsaDecodeEncodeRoundTrip", spec := "isaDecodeEncodeRoundTrip", named := ["gaoler/isa.parts", "gaoler/isa.forms"], apart := false, laid := [("gaoler/isa.forms", laid_gaoler_isa_forms), ("gaoler/isa.parts", laid_gaoler_isa_parts)] }
def IsaDecodeEncodeRoundTripSaid : Prop := isaDecodeEncodeRoundTripRow.holds Tryd.pinned (OpenSpec.ofChange isaDecodeEncodeRoundTripSpec)

/-- ITS FALSE NEIGHBOUR: 'it returns false'. Refute it at one input. -/
def isaDecodeEncodeRoundTripWrong : ChangeSpec := { name := "isaDecodeEncodeRoundTrip", fn := fun _ => fun
  | [d1, d2, d3] => { results := [.lit (.bool false)], args := [d1, d2, d3] }
  | _ => none }
def IsaDecodeEncodeRoundTripWrongFalsely : Prop := isaDecodeEncodeRoundTripRow.holds Tryd.pinned (OpenSpec.ofChange isaDecodeEncodeRoundTripWrong)

/-- 'gaolerlaw02.IsaUnusedBitsMustBeZero': WHATEVER THE INPUT: true; the input reads as it did. -/
def isaUnusedBitsMustBeZeroSpec : ChangeSpec := { name := "isaUnusedBitsMustBeZero", fn := fun _ => fun
  | [d1, d2] => { results := [.lit (.bool true)], args := [d1, d2] }
  | _ => none }
def isaUnusedBitsMustBeZeroRow : OpenClaim := { program := "ytpajnomngjllpaadoor", sum := "6b5cfb8ae38480ac63a8d1fb6c2623cd5e29ba2aec07a5fe46ce032219e1ee3e", func := "gaoler/gaolerlaw02.IsaUnusedBitsMustBeZero", spec := "isaUnusedBitsMustBeZero", named := ["gaoler/isa.parts", "gaoler/isa.forms"], apart := false, laid := [("gaoler/isa.forms", laid_gaoler_isa_forms), ("gaoler/isa.parts", laid_gaoler_isa_parts)] }
def IsaUnusedBitsMustBeZeroSaid : Prop := isaUnusedBitsMustBeZeroRow.holds Tryd.pinned (OpenSpec.ofChange isaUnusedBitsMustBeZeroSpec)

/-- ITS FALSE NEIGHBOUR: 'it returns false'. Refute it at one input. -/
def isaUnusedBitsMustBeZeroWrong : ChangeSpec := { name := "isaUnusedBitsMustBeZero", fn := fun _ => fun
  | [d1, d2] => { results := [.lit (.bool false)], args := [d1, d2] }
  | _ => none }
def IsaUnusedBitsMustBeZeroWrongFalsely : Prop := isaUnusedBitsMustBeZeroRow.holds Tryd.pinned (OpenSpec.ofChange isaUnusedBitsMustBeZeroWrong)

/-- 'gaolerlaw02.IsaTwentyFiveOpcodes': WHATEVER THE INPUT: true; the input reads as it did. -/
def isaTwentyFiveOpcodesSpec : ChangeSpec := { name := "isaTwentyFiveOpcodes", fn := fun _ => fun
  | [d] => { results := [.lit (.bool true)], args := [d] }
  | _ => none }
def isaTwentyFiveOpcodesRow : OpenClaim := { program := "ytpajnomngjllpaadoor", sum := "6b5cfb8ae38480ac63a8d1fb6c2623cd5e29ba2aec07a5fe46ce032219e1ee3e", func := "gaoler/gaolerlaw02.IsaTwentyFiveOpcodes", spec := "isaTwentyFiveOpcodes", named := ["gaoler/isa.parts", "gaoler/isa.forms"], apart := false, laid := [("gaoler/isa.forms", laid_gaoler_isa_forms), ("gaoler/isa.parts", laid_gaoler_isa_parts)] }
def IsaTwentyFiveOpcodesSaid : Prop := isaTwentyFiveOpcodesRow.holds Tryd.pinned (OpenSpec.ofChange isaTwentyFiveOpcodesSpec)

/-- ITS FALSE NEIGHBOUR: 'it returns false'. Refute it at one input. -/
def isaTwentyFiveOpcodesWrong : ChangeSpec := { name := "isaTwentyFiveOpcodes", fn := fun _ => fun
  | [d] => { results := [.lit (.bool false)], args := [d] }
  | _ => none }
def IsaTwentyFiveOpcodesWrongFalsely : Prop := isaTwentyFiveOpcodesRow.holds Tryd.pinned (OpenSpec.ofChange isaTwentyFiveOpcodesWrong)

/-- 'gaolerlaw02.IsaFieldsAreIndependent': WHATEVER THE INPUT: true; the input reads as it did. -/
def isaFieldsAreIndependentSpec : ChangeSpec := { name := "isaFieldsAreIndependent", fn := fun _ => fun
  | [d1, d2] => { results := [.lit (.bool true)], args := [d1, d2] }
  | _ => none }
def isaFieldsAreIndependentRow : OpenClaim := { program := "ytpajnomngjllpaadoor", sum := "6b5cfb8ae38480ac63a8d1fb6c2623cd5e29ba2aec07a5fe46ce032219e1ee3e", func := "gaoler/gaolerlaw02.IsaFieldsAreIndependent", spec := "isaFieldsAreIndependent", named := ["gaoler/isa.parts", "gaoler/isa.forms"], apart := false, laid := [("gaoler/isa.forms", laid_gaoler_isa_forms), ("gaoler/isa.parts", laid_gaoler_isa_parts)] }
def IsaFieldsAreIndependentSaid : Prop := isaFieldsAreIndependentRow.holds Tryd.pinned (OpenSpec.ofChange isaFieldsAreIndependentSpec)

/-- ITS FALSE NEIGHBOUR: 'it returns false'. Refute it at one input. -/
def isaFieldsAreIndependentWrong : ChangeSpec := { name := "isaFieldsAreIndependent", fn := fun _ => fun
  | [d1, d2] => { results := [.lit (.bool false)], args := [d1, d2] }
  | _ => none }
def IsaFieldsAreIndependentWrongFalsely : Prop := isaFieldsAreIndependentRow.holds Tryd.pinned (OpenSpec.ofChange isaFieldsAreIndependentWrong)

/- THE SECOND FORM. 'bulk': how many values and letters a reading holds, each counted each time it is reached (what is shared counts as often as it is met; a slice's spare places count too). A statement '..UptoSaid' is the law's where the arguments, and the package variables that the reading takes, are together of bulk at most 1048576: NARROWER than '..Said'. Prove '..Said' where nothing that the law and all that it calls make is longer than what came in: it says more and counts as full. Else prove '..UptoSaid'. A law counts once. -/
mutual
def uptoBulk {H : Type} : DataW H → Nat
  | .lit (.string bytes) => bytes.length + 1
  | .lit _ => 1
  | .nil => 1
  | .ptr d => uptoBulk d + 1
  | .slice elems spare => uptoBulkAll elems + uptoBulkAll spare + 1
  | .agg parts => uptoBulkAll parts + 1
  | .iface _ d => uptoBulk d + 1
  | .map entries => uptoBulkEntries entries + 1
  | .held _ => 1
def uptoBulkAll {H : Type} : List (DataW H) → Nat
  | [] => 0
  | d :: r => uptoBulk d + uptoBulkAll r
def uptoBulkEntries {H : Type} : List (Lit × DataW H) → Nat
  | [] => 0
  | x :: r => uptoBulkEntry x + uptoBulkEntries r
def uptoBulkEntry {H : Type} : Lit × DataW H → Nat
  | (.string bytes, d) => bytes.length + uptoBulk d + 1
  | (_, d) => uptoBulk d + 1
 end
def uptoSmall : (H : Type) → List (DataW H) → Bool := fun _ ds => decide (uptoBulkAll ds ≤ 1048576)
def OpenSpec.upto (s : _root_.Go.ChangeSpec) : _root_.Go.OpenSpec := { _root_.Go.OpenSpec.ofChange s with cond := some uptoSmall }

/-- 'gaolerlaw02.IsaMatchesReference', WHERE WHAT IT READS IS OF BULK AT MOST 1048576: true; the input reads as it did. -/
def isaMatchesReferenceUptoRow : OpenClaim := { program := "ytpajnomngjllpaadoor", sum := "6b5cfb8ae38480ac63a8d1fb6c2623cd5e29ba2aec07a5fe46ce032219e1ee3e", func := "gaoler/gaolerlaw02.IsaMatchesReference", spec := "isaMatchesReference", named := ["gaoler/isa.parts", "gaoler/isa.forms"], apart := false, laid := [("gaoler/isa.forms", laid_gaoler_isa_forms), ("gaoler/isa.parts", laid_gaoler_isa_parts)], narrowed := true }
def IsaMatchesReferenceUptoSaid : Prop := isaMatchesReferenceUptoRow.holds Tryd.pinned (OpenSpec.upto isaMatchesReferenceSpec)

/-- 'gaolerlaw02.IsaDecodeEncodeRoundTrip', WHERE WHAT IT READS IS OF BULK AT MOST 1048576: true; the input reads as it did. -/
def isaDecodeEncodeRoundTripUptoRow : OpenClaim := { program := "ytpajnomngjllpaadoor", sum := "6b5cfb8ae38480ac63a8d1fb6c2623cd5e29ba2aec07a5fe46ce032219e1ee3e", func := "gaoler/gaolerlaw02.IsaDecodeEncodeRoundTrip", spec := "isaDecodeEncodeRoundTrip", named := ["gaoler/isa.parts", "gaoler/isa.forms"], apart := false, laid := [("gaoler/isa.forms", laid_gaoler_isa_forms), ("gaoler/isa.parts", laid_gaoler_isa_parts)], narrowed := true }
def IsaDecodeEncodeRoundTripUptoSaid : Prop := isaDecodeEncodeRoundTripUptoRow.holds Tryd.pinned (OpenSpec.upto isaDecodeEncodeRoundTripSpec)

/-- 'gaolerlaw02.IsaUnusedBitsMustBeZero', WHERE WHAT IT READS IS OF BULK AT MOST 1048576: true; the input reads as it did. -/
def isaUnusedBitsMustBeZeroUptoRow : OpenClaim := { program := "ytpajnomngjllpaadoor", sum := "6b5cfb8ae38480ac63a8d1fb6c2623cd5e29ba2aec07a5fe46ce032219e1ee3e", func := "gaoler/gaolerlaw02.IsaUnusedBitsMustBeZero", spec := "isaUnusedBitsMustBeZero", named := ["gaoler/isa.parts", "gaoler/isa.forms"], apart := false, laid := [("gaoler/isa.forms", laid_gaoler_isa_forms), ("gaoler/isa.parts", laid_gaoler_isa_parts)], narrowed := true }
def IsaUnusedBitsMustBeZeroUptoSaid : Prop := isaUnusedBitsMustBeZeroUptoRow.holds Tryd.pinned (OpenSpec.upto isaUnusedBitsMustBeZeroSpec)

/-- 'gaolerlaw02.IsaTwentyFiveOpcodes', WHERE WHAT IT READS IS OF BULK AT MOST 1048576: true; the input reads as it did. -/
def isaTwentyFiveOpcodesUptoRow : OpenClaim := { program := "ytpajnomngjllpaadoor", sum := "6b5cfb8ae38480ac63a8d1fb6c2623cd5e29ba2aec07a5fe46ce032219e1ee3e", func := "gaoler/gaolerlaw02.IsaTwentyFiveOpcodes", spec := "isaTwentyFiveOpcodes", named := ["gaoler/isa.parts", "gaoler/isa.forms"], apart := false, laid := [("gaoler/isa.forms", laid_gaoler_isa_forms), ("gaoler/isa.parts", laid_gaoler_isa_parts)], narrowed := true }
def IsaTwentyFiveOpcodesUptoSaid : Prop := isaTwentyFiveOpcodesUptoRow.holds Tryd.pinned (OpenSpec.upto isaTwentyFiveOpcodesSpec)

/-- 'gaolerlaw02.IsaFieldsAreIndependent', WHERE WHAT IT READS IS OF BULK AT MOST 1048576: true; the input reads as it did. -/
def isaFieldsAreIndependentUptoRow : OpenClaim := { program := "ytpajnomngjllpaadoor", sum := "6b5cfb8ae38480ac63a8d1fb6c2623cd5e29ba2aec07a5fe46ce032219e1ee3e", func := "gaoler/gaolerlaw02.IsaFieldsAreIndependent", spec := "isaFieldsAreIndependent", named := ["gaoler/isa.parts", "gaoler/isa.forms"], apart := false, laid := [("gaoler/isa.forms", laid_gaoler_isa_forms), ("gaoler/isa.parts", laid_gaoler_isa_parts)], narrowed := true }
def IsaFieldsAreIndependentUptoSaid : Prop := isaFieldsAreIndependentUptoRow.holds Tryd.pinned (OpenSpec.upto isaFieldsAreIndependentSpec)

end Rows
end Go.Proofs.YtpajnomngjllpaaDoor
