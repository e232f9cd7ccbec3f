/-
  No cell of these rows narrows 'for every input' (looked for: loops, veiled, ifaces, maps, wideKeys, modest, calm, conditions, laid).
  DERIVED. THE GIVEN ROWS OF THIS SEAT. 4 by the template 'for every input the law returns true; each argument reads behind the call as it read before'; 0 by the template 'total and deterministic' (their statements: YtppaegfmmegabaaTotals.lean).
  GIVEN WITH THE SEED: the statements are not yours to turn. If you find one false, say at which input.
  Laid BY PROGRAM, IN A SANDBOX (cutbox-rows.mjs): the forced cells as the released guide's own fill.sh prints them over the translation 17d04ae2e1f48442… (all of the seat's roots in one cut). By AI agents, Wed Nov 11 2026. No macro, syntax, notation, axiom, sorry.
-/
import Derived.Test.YtppaegfmmegabaaChecked
import GoSem.Claim
import GoSem.ClaimJoined
import GoSem.ClaimMapViews
import Derived.JoinedTies
import Derived.KernelRfl
namespace Go.Proofs.Ytppaegfmmegabaa
/- THE CELL 'sum', in the pinned program and in every row, IS THE sha256 OF THE DUMP (.gsa) THAT YtppaegfmmegabaaProg.lean LOADS. Nothing in Lean hashes anything: it is a label: what it is worth is what the hold of that sum in a sandbox is worth. -/
noncomputable def Try.pinned : Pinned := { name := "ytppaegfmmegabaa", sum := "17d04ae2e1f48442f71bcbf3ba7a763cdc15dbac8dd4649d0a4120ad7f304e90", checked := Try.checked }
namespace Rows
def none {H : Type} : Left H := { results := [], args := [] }

/-- 'gaolerlaw24.SchedMatchesReference': WHATEVER THE INPUT: true; the input reads as it did. -/
def schedMatchesReferenceSpec : ChangeSpec := { name := "schedMatchesReference", fn := fun _ => fun
  | [d1, d2, d3] => { results := [.lit (.bool true)], args := [d1, d2, d3] }
  | _ => none }
def schedMatchesReferenceRow : OpenClaim := { program := "ytppaegfmmegabaa", sum := "17d04ae2e1f48442f71bcbf3ba7a763cdc15dbac8dd4649d0a4120ad7f304e90", func := "gaoler/gaolerlaw24.SchedMatchesReference", spec := "schedMatchesReference", unfollowed := true, recurses := true, apart := false }
def SchedMatchesReferenceSaid : Prop := schedMatchesReferenceRow.holds Try.pinned (OpenSpec.ofChange schedMatchesReferenceSpec)

/-- ITS FALSE NEIGHBOUR: 'it returns false'. Refute it at one input. -/
def schedMatchesReferenceWrong : ChangeSpec := { name := "schedMatchesReference", fn := fun _ => fun
  | [d1, d2, d3] => { results := [.lit (.bool false)], args := [d1, d2, d3] }
  | _ => none }
def SchedMatchesReferenceWrongFalsely : Prop := schedMatchesReferenceRow.holds Try.pinned (OpenSpec.ofChange schedMatchesReferenceWrong)

/-- 'gaolerlaw24.SchedRoundRobinIsFair': WHATEVER THE INPUT: true; the input reads as it did. -/
def schedRoundRobinIsFairSpec : ChangeSpec := { name := "schedRoundRobinIsFair", fn := fun _ => fun
  | [d1, d2] => { results := [.lit (.bool true)], args := [d1, d2] }
  | _ => none }
def schedRoundRobinIsFairRow : OpenClaim := { program := "ytppaegfmmegabaa", sum := "17d04ae2e1f48442f71bcbf3ba7a763cdc15dbac8dd4649d0a4120ad7f304e90", func := "gaoler/gaolerlaw24.SchedRoundRobinIsFair", spec := "schedRoundRobinIsFair", unfollowed := true, recurses := true, apart := false }
def SchedRoundRobinIsFairSaid : Prop := schedRoundRobinIsFairRow.holds Try.pinned (OpenSpec.ofChange schedRoundRobinIsFairSpec)

/-- ITS FALSE NEIGHBOUR: 'it returns false'. Refute it at one input. -/
def schedRoundRobinIsFairWrong : ChangeSpec := { name := "schedRoundRobinIsFair", fn := fun _ => fun
  | [d1, d2] => { results := [.lit (.bool false)], args := [d1, d2] }
  | _ => none }
def SchedRoundRobinIsFairWrongFalsely : Prop := schedRoundRobinIsFairRow.holds Try.pinned (OpenSpec.ofChange schedRoundRobinIsFairWrong)

/-- 'gaolerlaw24.SchedNextIsFirstRunnable': WHATEVER THE INPUT: true; the input reads as it did. -/
def schedNextIsFirstRunnableSpec : ChangeSpec := { name := "schedNextIsFirstRunnable", fn := fun _ => fun
  | [d1, d2] => { results := [.lit (.bool true)], args := [d1, d2] }
  | _ => none }
def schedNextIsFirstRunnableRow : OpenClaim := { program := "ytppaegfmmegabaa", sum := "17d04ae2e1f48442f71bcbf3ba7a763cdc15dbac8dd4649d0a4120ad7f304e90", func := "gaoler/gaolerlaw24.SchedNextIsFirstRunnable", spec := "schedNextIsFirstRunnable", unfollowed := true, recurses := true, apart := false }
def SchedNextIsFirstRunnableSaid : Prop := schedNextIsFirstRunnableRow.holds Try.pinned (OpenSpec.ofChange schedNextIsFirstRunnableSpec)

/-- ITS FALSE NEIGHBOUR: 'it returns false'. Refute it at one input. -/
def schedNextIsFirstRunnableWrong : ChangeSpec := { name := "schedNextIsFirstRunnable", fn := fun _ => fun
  | [d1, d2] => { results := [.lit (.bool false)], args := [d1, d2] }
  | _ => none }
def SchedNextIsFirstRunnableWrongFalsely : Prop := schedNextIsFirstRunnableRow.holds Try.pinned (OpenSpec.ofChange schedNextIsFirstRunnableWrong)

/-- 'gaolerlaw24.SchedOrderFollowsNext': WHATEVER THE INPUT: true; the input reads as it did. -/
def schedOrderFollowsNextSpec : ChangeSpec := { name := "schedOrderFollowsNext", fn := fun _ => fun
  | [d1, d2, d3, d4] => { results := [.lit (.bool true)], args := [d1, d2, d3, d4] }
  | _ => none }
def schedOrderFollowsNextRow : OpenClaim := { program := "ytppaegfmmegabaa", sum := "17d04ae2e1f48442f71bcbf3ba7a763cdc15dbac8dd4649d0a4120ad7f304e90", func := "gaoler/gaolerlaw24.SchedOrderFollowsNext", spec := "schedOrderFollowsNext", unfollowed := true, recurses := true, apart := false }
def SchedOrderFollowsNextSaid : Prop := schedOrderFollowsNextRow.holds Try.pinned (OpenSpec.ofChange schedOrderFollowsNextSpec)

/-- ITS FALSE NEIGHBOUR: 'it returns false'. Refute it at one input. -/
def schedOrderFollowsNextWrong : ChangeSpec := { name := "schedOrderFollowsNext", fn := fun _ => fun
  | [d1, d2, d3, d4] => { results := [.lit (.bool false)], args := [d1, d2, d3, d4] }
  | _ => none }
def SchedOrderFollowsNextWrongFalsely : Prop := schedOrderFollowsNextRow.holds Try.pinned (OpenSpec.ofChange schedOrderFollowsNextWrong)

/- THE SECOND FORM. 'bulk': how many values and letters a reading holds, each counted each time it is reached (what is shared counts as often as it is met; a slice's spare places count too). A statement '..UptoSaid' is the law's where the arguments, and the package variables that the reading takes, are together of bulk at most 1048576: NARROWER than '..Said'. Prove '..Said' where nothing that the law and all that it calls make is longer than what came in: it says more and counts as full. Else prove '..UptoSaid'. A law counts once. -/
mutual
def uptoBulk {H : Type} : DataW H → Nat
  | .lit (.string bytes) => bytes.length + 1
  | .lit _ => 1
  | .nil => 1
  | .ptr d => uptoBulk d + 1
  | .slice elems spare => uptoBulkAll elems + uptoBulkAll spare + 1
  | .agg parts => uptoBulkAll parts + 1
  | .iface _ d => uptoBulk d + 1
  | .map entries => uptoBulkEntries entries + 1
  | .held _ => 1
def uptoBulkAll {H : Type} : List (DataW H) → Nat
  | [] => 0
  | d :: r => uptoBulk d + uptoBulkAll r
def uptoBulkEntries {H : Type} : List (Lit × DataW H) → Nat
  | [] => 0
  | x :: r => uptoBulkEntry x + uptoBulkEntries r
def uptoBulkEntry {H : Type} : Lit × DataW H → Nat
  | (.string bytes, d) => bytes.length + uptoBulk d + 1
  | (_, d) => uptoBulk d + 1
 end
def uptoSmall : (H : Type) → List (DataW H) → Bool := fun _ ds => decide (uptoBulkAll ds ≤ 1048576)
def OpenSpec.upto (s : _root_.Go.ChangeSpec) : _root_.Go.OpenSpec := { _root_.Go.OpenSpec.ofChange s with cond := some uptoSmall }

/-- 'gaolerlaw24.SchedMatchesReference', WHERE WHAT IT READS IS OF BULK AT MOST 1048576: true; the input reads as it did. -/
def schedMatchesReferenceUptoRow : OpenClaim := { program := "ytppaegfmmegabaa", sum := "17d04ae2e1f48442f71bcbf3ba7a763cdc15dbac8dd4649d0a4120ad7f304e90", func := "gaoler/gaolerlaw24.SchedMatchesReference", spec := "schedMatchesReference", unfollowed := true, recurses := true, apart := false, narrowed := true }
def SchedMatchesReferenceUptoSaid : Prop := schedMatchesReferenceUptoRow.holds Try.pinned (OpenSpec.upto schedMatchesReferenceSpec)

/-- 'gaolerlaw24.SchedRoundRobinIsFair', WHERE WHAT IT READS IS OF BULK AT MOST 1048576: true; the input reads as it did. -/
def schedRoundRobinIsFairUptoRow : OpenClaim := { program := "ytppaegfmmegabaa", sum := "17d04ae2e1f48442f71bcbf3ba7a763cdc15dbac8dd4649d0a4120ad7f304e90", func := "gaoler/gaolerlaw24.SchedRoundRobinIsFair", spec := "schedRoundRobinIsFair", unfollowed := true, recurses := true, apart := false, narrowed := true }
def SchedRoundRobinIsFairUptoSaid : Prop := schedRoundRobinIsFairUptoRow.holds Try.pinned (OpenSpec.upto schedRoundRobinIsFairSpec)

/-- 'gaolerlaw24.SchedNextIsFirstRunnable', WHERE WHAT IT READS IS OF BULK AT MOST 1048576: true; the input reads as it did. -/
def schedNextIsFirstRunnableUptoRow : OpenClaim := { program := "ytppaegfmmegabaa", sum := "17d04ae2e1f48442f71bcbf3ba7a763cdc15dbac8dd4649d0a4120ad7f304e90", func := "gaoler/gaolerlaw24.SchedNextIsFirstRunnable", spec := "schedNextIsFirstRunnable", unfollowed := true, recurses := true, apart := false, narrowed := true }
def SchedNextIsFirstRunnableUptoSaid : Prop := schedNextIsFirstRunnableUptoRow.holds Try.pinned (OpenSpec.upto schedNextIsFirstRunnableSpec)

/-- 'gaolerlaw24.SchedOrderFollowsNext', WHERE WHAT IT READS IS OF BULK AT MOST 1048576: true; the input reads as it did. -/
def schedOrderFollowsNextUptoRow : OpenClaim := { program := "ytppaegfmmegabaa", sum := "17d04ae2e1f48442f71bcbf3ba7a763cdc15dbac8dd4649d0a4120ad7f304e90", func := "gaoler/gaolerlaw24.SchedOrderFollowsNext", spec := "schedOrderFollowsNext", unfollowed := true, recurses := true, apart := false, narrowed := true }
def SchedOrderFollowsNextUptoSaid : Prop := schedOrderFollowsNextUptoRow.holds Try.pinned (OpenSpec.upto schedOrderFollowsNextSpec)

end Rows
end Go.Proofs.Ytppaegfmmegabaa
