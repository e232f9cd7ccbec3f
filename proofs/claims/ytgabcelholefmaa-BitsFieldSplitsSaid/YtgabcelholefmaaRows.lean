/-
  No cell of these rows narrows 'for every input' (looked for: loops, veiled, ifaces, maps, wideKeys, modest, calm, conditions, laid).
  DERIVED. THE GIVEN ROWS OF THIS SEAT. 5 by the template 'for every input the law returns true; each argument reads behind the call as it read before'; 0 by the template 'total and deterministic' (their statements: YtgabcelholefmaaTotals.lean).
  GIVEN WITH THE SEED: the statements are not yours to turn. If you find one false, say at which input.
  Laid BY PROGRAM, IN A SANDBOX (cutbox-rows.mjs): the forced cells as the released guide's own fill.sh prints them over the translation fbbbf04511f98234… (all of the seat's roots in one cut). By AI agents, Wed Nov 11 2026. No macro, syntax, notation, axiom, sorry.
-/
import Derived.Test.YtgabcelholefmaaChecked
import GoSem.Claim
import GoSem.ClaimJoined
import GoSem.ClaimMapViews
import Derived.JoinedTies
import Derived.KernelRfl
namespace Go.Proofs.Ytgabcelholefmaa
/- THE CELL 'sum', in the pinned program and in every row, IS THE sha256 OF THE DUMP (.gsa) THAT YtgabcelholefmaaProg.lean LOADS. Nothing in Lean hashes anything: it is a label: what it is worth is what the hold of that sum in a sandbox is worth. -/
noncomputable def Try.pinned : Pinned := { name := "ytgabcelholefmaa", sum := "fbbbf04511f9823468e87a6885131858bc991d5a9b84830ba99b6e801dde961d", checked := Try.checked }
namespace Rows
def none {H : Type} : Left H := { results := [], args := [] }

/-- 'gaolerlaw01.BitsMatchReference': WHATEVER THE INPUT: true; the input reads as it did. -/
def bitsMatchReferenceSpec : ChangeSpec := { name := "bitsMatchReference", fn := fun _ => fun
  | [d1, d2, d3, d4, d5] => { results := [.lit (.bool true)], args := [d1, d2, d3, d4, d5] }
  | _ => none }
def bitsMatchReferenceRow : OpenClaim := { program := "ytgabcelholefmaa", sum := "fbbbf04511f9823468e87a6885131858bc991d5a9b84830ba99b6e801dde961d", func := "gaoler/gaolerlaw01.BitsMatchReference", spec := "bitsMatchReference", apart := false }
def BitsMatchReferenceSaid : Prop := bitsMatchReferenceRow.holds Try.pinned (OpenSpec.ofChange bitsMatchReferenceSpec)

/-- ITS FALSE NEIGHBOUR: 'it returns false'. Refute it at one input. -/
def bitsMatchReferenceWrong : ChangeSpec := { name := "bitsMatchReference", fn := fun _ => fun
  | [d1, d2, d3, d4, d5] => { results := [.lit (.bool false)], args := [d1, d2, d3, d4, d5] }
  | _ => none }
def BitsMatchReferenceWrongFalsely : Prop := bitsMatchReferenceRow.holds Try.pinned (OpenSpec.ofChange bitsMatchReferenceWrong)

/-- 'gaolerlaw01.BitsInsertThenExtract': WHATEVER THE INPUT: true; the input reads as it did. -/
def bitsInsertThenExtractSpec : ChangeSpec := { name := "bitsInsertThenExtract", fn := fun _ => fun
  | [d1, d2, d3, d4, d5, d6, d7] => { results := [.lit (.bool true)], args := [d1, d2, d3, d4, d5, d6, d7] }
  | _ => none }
def bitsInsertThenExtractRow : OpenClaim := { program := "ytgabcelholefmaa", sum := "fbbbf04511f9823468e87a6885131858bc991d5a9b84830ba99b6e801dde961d", func := "gaoler/gaolerlaw01.BitsInsertThenExtract", spec := "bitsInsertThenExtract", apart := false }
def BitsInsertThenExtractSaid : Prop := bitsInsertThenExtractRow.holds Try.pinned (OpenSpec.ofChange bitsInsertThenExtractSpec)

/-- ITS FALSE NEIGHBOUR: 'it returns false'. Refute it at one input. -/
def bitsInsertThenExtractWrong : ChangeSpec := { name := "bitsInsertThenExtract", fn := fun _ => fun
  | [d1, d2, d3, d4, d5, d6, d7] => { results := [.lit (.bool false)], args := [d1, d2, d3, d4, d5, d6, d7] }
  | _ => none }
def BitsInsertThenExtractWrongFalsely : Prop := bitsInsertThenExtractRow.holds Try.pinned (OpenSpec.ofChange bitsInsertThenExtractWrong)

/-- 'gaolerlaw01.BitsSignRoundTrip': WHATEVER THE INPUT: true; the input reads as it did. -/
def bitsSignRoundTripSpec : ChangeSpec := { name := "bitsSignRoundTrip", fn := fun _ => fun
  | [d1, d2, d3] => { results := [.lit (.bool true)], args := [d1, d2, d3] }
  | _ => none }
def bitsSignRoundTripRow : OpenClaim := { program := "ytgabcelholefmaa", sum := "fbbbf04511f9823468e87a6885131858bc991d5a9b84830ba99b6e801dde961d", func := "gaoler/gaolerlaw01.BitsSignRoundTrip", spec := "bitsSignRoundTrip", apart := false }
def BitsSignRoundTripSaid : Prop := bitsSignRoundTripRow.holds Try.pinned (OpenSpec.ofChange bitsSignRoundTripSpec)

/-- ITS FALSE NEIGHBOUR: 'it returns false'. Refute it at one input. -/
def bitsSignRoundTripWrong : ChangeSpec := { name := "bitsSignRoundTrip", fn := fun _ => fun
  | [d1, d2, d3] => { results := [.lit (.bool false)], args := [d1, d2, d3] }
  | _ => none }
def BitsSignRoundTripWrongFalsely : Prop := bitsSignRoundTripRow.holds Try.pinned (OpenSpec.ofChange bitsSignRoundTripWrong)

/-- 'gaolerlaw01.BitsFieldSplits': WHATEVER THE INPUT: true; the input reads as it did. -/
def bitsFieldSplitsSpec : ChangeSpec := { name := "bitsFieldSplits", fn := fun _ => fun
  | [d1, d2, d3, d4, d5] => { results := [.lit (.bool true)], args := [d1, d2, d3, d4, d5] }
  | _ => none }
def bitsFieldSplitsRow : OpenClaim := { program := "ytgabcelholefmaa", sum := "fbbbf04511f9823468e87a6885131858bc991d5a9b84830ba99b6e801dde961d", func := "gaoler/gaolerlaw01.BitsFieldSplits", spec := "bitsFieldSplits", apart := false }
def BitsFieldSplitsSaid : Prop := bitsFieldSplitsRow.holds Try.pinned (OpenSpec.ofChange bitsFieldSplitsSpec)

/-- ITS FALSE NEIGHBOUR: 'it returns false'. Refute it at one input. -/
def bitsFieldSplitsWrong : ChangeSpec := { name := "bitsFieldSplits", fn := fun _ => fun
  | [d1, d2, d3, d4, d5] => { results := [.lit (.bool false)], args := [d1, d2, d3, d4, d5] }
  | _ => none }
def BitsFieldSplitsWrongFalsely : Prop := bitsFieldSplitsRow.holds Try.pinned (OpenSpec.ofChange bitsFieldSplitsWrong)

/-- 'gaolerlaw01.BitsWordFromBits': WHATEVER THE INPUT: true; the input reads as it did. -/
def bitsWordFromBitsSpec : ChangeSpec := { name := "bitsWordFromBits", fn := fun _ => fun
  | [d1, d2, d3] => { results := [.lit (.bool true)], args := [d1, d2, d3] }
  | _ => none }
def bitsWordFromBitsRow : OpenClaim := { program := "ytgabcelholefmaa", sum := "fbbbf04511f9823468e87a6885131858bc991d5a9b84830ba99b6e801dde961d", func := "gaoler/gaolerlaw01.BitsWordFromBits", spec := "bitsWordFromBits", apart := false }
def BitsWordFromBitsSaid : Prop := bitsWordFromBitsRow.holds Try.pinned (OpenSpec.ofChange bitsWordFromBitsSpec)

/-- ITS FALSE NEIGHBOUR: 'it returns false'. Refute it at one input. -/
def bitsWordFromBitsWrong : ChangeSpec := { name := "bitsWordFromBits", fn := fun _ => fun
  | [d1, d2, d3] => { results := [.lit (.bool false)], args := [d1, d2, d3] }
  | _ => none }
def BitsWordFromBitsWrongFalsely : Prop := bitsWordFromBitsRow.holds Try.pinned (OpenSpec.ofChange bitsWordFromBitsWrong)

/- THE SECOND FORM. 'bulk': how many values and letters a reading holds, each counted each time it is reached (what is shared counts as often as it is met; a slice's spare places count too). A statement '..UptoSaid' is the law's where the arguments, and the package variables that the reading takes, are together of bulk at most 1048576: NARROWER than '..Said'. Prove '..Said' where nothing that the law and all that it calls make is longer than what came in: it says more and counts as full. Else prove '..UptoSaid'. A law counts once. -/
mutual
def uptoBulk {H : Type} : DataW H → Nat
  | .lit (.string bytes) => bytes.length + 1
  | .lit _ => 1
  | .nil => 1
  | .ptr d => uptoBulk d + 1
  | .slice elems spare => uptoBulkAll elems + uptoBulkAll spare + 1
  | .agg parts => uptoBulkAll parts + 1
  | .iface _ d => uptoBulk d + 1
  | .map entries => uptoBulkEntries entries + 1
  | .held _ => 1
def uptoBulkAll {H : Type} : List (DataW H) → Nat
  | [] => 0
  | d :: r => uptoBulk d + uptoBulkAll r
def uptoBulkEntries {H : Type} : List (Lit × DataW H) → Nat
  | [] => 0
  | x :: r => uptoBulkEntry x + uptoBulkEntries r
def uptoBulkEntry {H : Type} : Lit × DataW H → Nat
  | (.string bytes, d) => bytes.length + uptoBulk d + 1
  | (_, d) => uptoBulk d + 1
 end
def uptoSmall : (H : Type) → List (DataW H) → Bool := fun _ ds => decide (uptoBulkAll ds ≤ 1048576)
def OpenSpec.upto (s : _root_.Go.ChangeSpec) : _root_.Go.OpenSpec := { _root_.Go.OpenSpec.ofChange s with cond := some uptoSmall }

/-- 'gaolerlaw01.BitsMatchReference', WHERE WHAT IT READS IS OF BULK AT MOST 1048576: true; the input reads as it did. -/
def bitsMatchReferenceUptoRow : OpenClaim := { program := "ytgabcelholefmaa", sum := "fbbbf04511f9823468e87a6885131858bc991d5a9b84830ba99b6e801dde961d", func := "gaoler/gaolerlaw01.BitsMatchReference", spec := "bitsMatchReference", apart := false, narrowed := true }
def BitsMatchReferenceUptoSaid : Prop := bitsMatchReferenceUptoRow.holds Try.pinned (OpenSpec.upto bitsMatchReferenceSpec)

/-- 'gaolerlaw01.BitsInsertThenExtract', WHERE WHAT IT READS IS OF BULK AT MOST 1048576: true; the input reads as it did. -/
def bitsInsertThenExtractUptoRow : OpenClaim := { program := "ytgabcelholefmaa", sum := "fbbbf04511f9823468e87a6885131858bc991d5a9b84830ba99b6e801dde961d", func := "gaoler/gaolerlaw01.BitsInsertThenExtract", spec := "bitsInsertThenExtract", apart := false, narrowed := true }
def BitsInsertThenExtractUptoSaid : Prop := bitsInsertThenExtractUptoRow.holds Try.pinned (OpenSpec.upto bitsInsertThenExtractSpec)

/-- 'gaolerlaw01.BitsSignRoundTrip', WHERE WHAT IT READS IS OF BULK AT MOST 1048576: true; the input reads as it did. -/
def bitsSignRoundTripUptoRow : OpenClaim := { program := "ytgabcelholefmaa", sum := "fbbbf04511f9823468e87a6885131858bc991d5a9b84830ba99b6e801dde961d", func := "gaoler/gaolerlaw01.BitsSignRoundTrip", spec := "bitsSignRoundTrip", apart := false, narrowed := true }
def BitsSignRoundTripUptoSaid : Prop := bitsSignRoundTripUptoRow.holds Try.pinned (OpenSpec.upto bitsSignRoundTripSpec)

/-- 'gaolerlaw01.BitsFieldSplits', WHERE WHAT IT READS IS OF BULK AT MOST 1048576: true; the input reads as it did. -/
def bitsFieldSplitsUptoRow : OpenClaim := { program := "ytgabcelholefmaa", sum := "fbbbf04511f9823468e87a6885131858bc991d5a9b84830ba99b6e801dde961d", func := "gaoler/gaolerlaw01.BitsFieldSplits", spec := "bitsFieldSplits", apart := false, narrowed := true }
def BitsFieldSplitsUptoSaid : Prop := bitsFieldSplitsUptoRow.holds Try.pinned (OpenSpec.upto bitsFieldSplitsSpec)

/-- 'gaolerlaw01.BitsWordFromBits', WHERE WHAT IT READS IS OF BULK AT MOST 1048576: true; the input reads as it did. -/
def bitsWordFromBitsUptoRow : OpenClaim := { program := "ytgabcelholefmaa", sum := "fbbbf04511f9823468e87a6885131858bc991d5a9b84830ba99b6e801dde961d", func := "gaoler/gaolerlaw01.BitsWordFromBits", spec := "bitsWordFromBits", apart := false, narrowed := true }
def BitsWordFromBitsUptoSaid : Prop := bitsWordFromBitsUptoRow.holds Try.pinned (OpenSpec.upto bitsWordFromBitsSpec)

end Rows
end Go.Proofs.Ytgabcelholefmaa
