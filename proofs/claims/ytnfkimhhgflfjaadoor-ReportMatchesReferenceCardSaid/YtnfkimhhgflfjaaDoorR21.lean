/- report.FormatAll of a monitor without guests, walked. -/
import Derived.Test.YtnfkimhhgflfjaaDoorR20
namespace Go.Proofs.YtnfkimhhgflfjaaDoor.Rep
open Go Go.RowKit Go.Shelf
set_option linter.unusedVariables false
set_option linter.unusedSimpArgs false
/-! ### report.FormatAll of a monitor without guests -/
set_option maxRecDepth 100000 in
set_option maxHeartbeats 4000000 in
theorem fall_any (xs : Array Value) (hx : xs[35]? = some (.slice none 0 0)) (W : World) :
    Calls Tryd.prog 15 #[.agg xs] W fun e w' => e = .returned (.string ⟨#[]⟩) ∧ Below W.heap.size W w' := by
  obtain ⟨W0, hW0⟩ : ∃ W0, W.alloc (.cells xs 58) = W0 := ⟨_, rfl⟩
  have c35 : W0.cell? ⟨W.heap.size, 35, none⟩ = some (.slice none 0 0) := by rw [← hW0, World.cell?_alloc_new]; exact hx
  have z0 : W0.heap.size = W.heap.size + 1 := by rw [← hW0]; simp
  have B0 : Below W.heap.size W W0 := by rw [← hW0]; exact (Below.refl W.heap.size W).alloc (Nat.le_refl _) _
  have hB0 := Lib.IsBuilderF.of (Lib.fresh_isBuilder 79 5 W0)
  obtain ⟨W1, hW1⟩ : ∃ W1, W0.alloc (.cells #[.pointer none, .slice none 0 0] 79) = W1 := ⟨_, rfl⟩
  have c35' : W1.cell? ⟨W.heap.size, 35, none⟩ = some (.slice none 0 0) := by rw [← hW1]; exact (World.cell?_alloc_lt _ _ ⟨W.heap.size, 35, none⟩ (by rw [z0]; exact Nat.lt_succ_self _)).trans c35
  have B1 : Hid (Below W.heap.size W W1) := Lib.hid (by rw [← hW1]; exact B0.alloc (by omega) _)
  have K : Hid (Calls Tryd.prog 34 #[.pointer (some ⟨W.heap.size + 1, 0, none⟩)] W1 fun e w' => e = .returned (.string ⟨#[]⟩) ∧ Below W0.heap.size W1 w') := Lib.hid (by
    rw [← hW1, ← z0]
    refine (Tryd.Builder_String_any_k W0.heap.size W0.heap.size [] _ hB0 (by simp)).mono ?_
    rintro e w' ⟨rfl, _, hb, _⟩
    exact ⟨rfl, hb⟩)
  have HW0 := Lib.hid hW0
  have HW1 := Lib.hid hW1
  have HB : Hid (∀ w', Below W0.heap.size W1 w' → Below W.heap.size W w') := Lib.hid (fun w' h => B1.out.trans (h.mono (by omega)))
  clear hW0 hW1 hB0 B0 c35 hx z0
  go_enter Tryd.func15, Tryd.ntmps15
  go_upto_region 2 with (fail)
  simp only [HW0.out, HW1.out]
  go_wp2_with fail
  go_loopw [11] (fun vi wr => vi = .int .i64 0 ∧ wr = W1) (fun _ _ => 0)
  case atStart => exact ⟨rfl, rfl⟩
  case round =>
    obtain ⟨rfl, rfl⟩ := hrel
    go_wp2_with fail
    refine K.out.mono ?_
    rintro e w2 ⟨rfl, hb⟩
    go_wp2
    go_ret
    exact ⟨rfl, HB.out _ hb⟩
end Go.Proofs.YtnfkimhhgflfjaaDoor.Rep
