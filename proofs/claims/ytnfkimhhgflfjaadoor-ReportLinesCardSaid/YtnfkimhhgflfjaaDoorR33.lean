/- gaolerlaw28.ReportLines. -/
import Derived.Test.YtnfkimhhgflfjaaDoorR32
namespace Go.Proofs.YtnfkimhhgflfjaaDoor.Rep
open Go Go.RowKit Go.Shelf
set_option linter.unusedVariables false
set_option linter.unusedSimpArgs false
/-- gaolerlaw28.ReportLines. -/
theorem law5 (cs ds : List Value) (v x : Vp) (w : World) (hE : Env w) (hv : VC w cs v) (hx : x.wf ∧ ds = coreC x) :
    Calls Tryd.prog 5 #[.agg cs.toArray, .agg ds.toArray] w fun e w' => e = .returned (.bool true) ∧ Below w.heap.size w w' := by
  obtain ⟨hw, rfl⟩ := hx
  cases f1 : fewV v with
  | false => exact law5_out cs v x w hE hv (.inl f1)
  | true =>
    cases f2 : vOk v with
    | false => exact law5_out cs v x w hE hv (.inr (.inl ⟨f1, f2⟩))
    | true =>
      by_cases h3 : v.done ≤ most
      · exact law5_main cs v x w hE hv hw f1 (by unfold fOk; rw [f2, decide_eq_true h3]; rfl)
      · exact law5_out cs v x w hE hv (.inr (.inr ⟨f1, f2, by unfold most at h3; omega⟩))
end Go.Proofs.YtnfkimhhgflfjaaDoor.Rep
