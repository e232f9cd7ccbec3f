/- gaolerlaw28.ReportLines, walked: the ways out at its head. -/
import Derived.Test.YtnfkimhhgflfjaaDoorR30
namespace Go.Proofs.YtnfkimhhgflfjaaDoor.Rep
open Go Go.RowKit Go.Shelf
set_option linter.unusedVariables false
set_option linter.unusedSimpArgs false
/-! ### gaolerlaw28.ReportLines, walked: the ways out at its head -/
/-- What stands throughout the law: its two boxed arguments. -/
structure L5 (w : World) (cs : List Value) (v x : Vp) (W : World) : Prop where
  env : Env W
  below : Below w.heap.size w W
  lt : w.heap.size + 1 < W.heap.size
  rA : W.rangeAt w.heap.size 0 cs
  rB : W.rangeAt (w.heap.size + 1) 0 (coreC x)
  vA : VC W cs v
theorem L5.later {w W W' : World} {cs : List Value} {v x : Vp} (h : L5 w cs v x W) (hb : Below W.heap.size W W') : L5 w cs v x W' :=
  ⟨h.env.later hb, h.below.trans (hb.mono h.below.size), Nat.lt_of_lt_of_le h.lt hb.size, range_later h.rA (by have := h.lt; omega) hb, range_later h.rB h.lt hb, h.vA.later hb⟩
theorem L5.done {w W : World} {cs : List Value} {v x : Vp} (h : L5 w cs v x W) : W.cell? ⟨w.heap.size, 31, none⟩ = some (.int .i64 v.done) := by
  obtain ⟨p, c, q, d, rfl, _, _⟩ := h.vA.cells
  have := h.rA 31 _ (vcs_end h.vA.wf p c q d 2)
  simpa using this
theorem l5_start (w : World) (hE : Env w) (cs : List Value) (v x : Vp) (hv : VC w cs v) {W1 : World} (hW : (w.alloc (.cells cs.toArray 30)).alloc (.cells (coreC x).toArray 26) = W1) : L5 w cs v x W1 := by
  obtain ⟨W0, hW0⟩ : ∃ W0, w.alloc (.cells cs.toArray 30) = W0 := ⟨_, rfl⟩
  rw [hW0] at hW
  have z0 : W0.heap.size = w.heap.size + 1 := by rw [← hW0]; simp
  have b0 : Below w.heap.size w W0 := by rw [← hW0]; exact (Below.refl w.heap.size w).alloc (Nat.le_refl _) _
  have b1 : Below W0.heap.size W0 W1 := by rw [← hW]; exact (Below.refl W0.heap.size W0).alloc (Nat.le_refl _) _
  have bw : Below w.heap.size w W1 := b0.trans (b1.mono b0.size)
  refine ⟨hE.later bw, bw, by rw [← hW, World.size_alloc]; omega, range_later (fun j x hj => ?_) (by omega) b1, fun j x hj => ?_, hv.later bw⟩
  · rw [Nat.zero_add, ← hW0, World.cell?_alloc_new]; simpa using hj
  · rw [Nat.zero_add, ← hW, ← z0, World.cell?_alloc_new]; simpa using hj
set_option maxRecDepth 100000 in
set_option maxHeartbeats 8000000 in
theorem law5_out (cs : List Value) (v x : Vp) (w : World) (hE : Env w) (hv : VC w cs v) (hno : fewV v = false ∨ (fewV v = true ∧ vOk v = false) ∨ (fewV v = true ∧ vOk v = true ∧ 1099511627776 < v.done)) :
    Calls Tryd.prog 5 #[.agg cs.toArray, .agg (coreC x).toArray] w fun e w' => e = .returned (.bool true) ∧ Below w.heap.size w w' := by
  obtain ⟨W1, hW1⟩ : ∃ W1, (w.alloc (.cells cs.toArray 30)).alloc (.cells (coreC x).toArray 26) = W1 := ⟨_, rfl⟩
  have A1 := Lib.hid (l5_start w hE cs v x hv hW1)
  obtain ⟨dc, hdc⟩ : ∃ d, coreC x = d := ⟨_, rfl⟩
  rw [hdc] at hW1 ⊢
  have X1 := Lib.hid hW1
  have F1 : Hid (∀ W, VC W cs v → Calls Tryd.prog 7 #[.agg cs.toArray] W fun e w' => e = .returned (.bool (fewV v)) ∧ Below W.heap.size W w') := Lib.hid (fun W h => few_any cs v W h)
  have F2 : fewV v = true → Hid (∀ W, VC W cs v → Calls Tryd.prog 14 #[.agg cs.toArray] W fun e w' => e = .returned (.bool (vOk v)) ∧ Below W.heap.size W w') := fun hf => Lib.hid (fun W h => form_any cs v W h (few_len hf).2)
  obtain ⟨dn, hdn⟩ : ∃ d, v.done = d := ⟨_, rfl⟩
  have HD : Hid (∀ W, L5 w cs v x W → W.cell? ⟨w.heap.size, 31, none⟩ = some (.int .i64 dn)) := Lib.hid (fun W h => by rw [h.done, hdn])
  rw [hdn] at hno
  clear hW1 hE hv hdc hdn
  rcases hno with h1 | ⟨h1, h2⟩ | ⟨h1, h2, h3⟩
  · rw [h1] at F1
    clear h1 F2 HD
    go_enter Tryd.func5, Tryd.ntmps5
    go_upto_region 1 with (fail)
    simp only [X1.out]
    go_wp2_with (first
      | (go_at_call 6; with_reducible refine (awake_any W1 A1.out.env).mono ?_; rintro e W2 ⟨rfl, b2⟩; have A2 := Lib.hid (A1.out.later b2); clear b2)
      | (refine wpList_load_midG rfl 30 (.tmp 2) rfl w.heap.size 0 rfl cs _ A2.out.rA Tryd.underlying30 rfl A2.out.vA.info ?_)
      | (go_at_call 7; with_reducible refine (F1.out W2 A2.out.vA).mono ?_; rintro e W3 ⟨rfl, b3⟩; have A3 := Lib.hid (A2.out.later b3); clear b3)
      | (go_at_call 6; with_reducible refine (awake_any W3 A3.out.env).mono ?_; rintro e W4 ⟨rfl, b4⟩; have A4 := Lib.hid (A3.out.later b4); clear b4))
    go_ret
    exact ⟨rfl, A4.out.below⟩
  · have F3 := F2 h1
    rw [h1] at F1
    rw [h2] at F3
    clear h1 h2 F2 HD
    go_enter Tryd.func5, Tryd.ntmps5
    go_upto_region 1 with (fail)
    simp only [X1.out]
    go_wp2_with (first
      | (go_at_call 6; with_reducible refine (awake_any W1 A1.out.env).mono ?_; rintro e W2 ⟨rfl, b2⟩; have A2 := Lib.hid (A1.out.later b2); clear b2)
      | (refine wpList_load_midG rfl 30 (.tmp 2) rfl w.heap.size 0 rfl cs _ A2.out.rA Tryd.underlying30 rfl A2.out.vA.info ?_)
      | (go_at_call 7; with_reducible refine (F1.out W2 A2.out.vA).mono ?_; rintro e W3 ⟨rfl, b3⟩; have A3 := Lib.hid (A2.out.later b3); clear b3)
      | (refine wpList_load_midG rfl 30 (.tmp 2) rfl w.heap.size 0 rfl cs _ A3.out.rA Tryd.underlying30 rfl A3.out.vA.info ?_)
      | (go_at_call 14; with_reducible refine (F3.out W3 A3.out.vA).mono ?_; rintro e W4 ⟨rfl, b4⟩; have A4 := Lib.hid (A3.out.later b4); clear b4)
      | (go_at_call 6; with_reducible refine (awake_any W4 A4.out.env).mono ?_; rintro e W5 ⟨rfl, b5⟩; have A5 := Lib.hid (A4.out.later b5); clear b5))
    go_ret
    exact ⟨rfl, A5.out.below⟩
  · have F3 := F2 h1
    rw [h1] at F1
    rw [h2] at F3
    have q1 : decide ((1099511627776 : Int) < dn) = true := decide_eq_true h3
    clear h1 h2 F2
    go_enter Tryd.func5, Tryd.ntmps5
    go_upto_region 1 with (fail)
    simp only [X1.out]
    go_wp2_with (first
      | (go_at_call 6; with_reducible refine (awake_any W1 A1.out.env).mono ?_; rintro e W2 ⟨rfl, b2⟩; have A2 := Lib.hid (A1.out.later b2); clear b2)
      | (refine wpList_load_midG rfl 30 (.tmp 2) rfl w.heap.size 0 rfl cs _ A2.out.rA Tryd.underlying30 rfl A2.out.vA.info ?_)
      | (go_at_call 7; with_reducible refine (F1.out W2 A2.out.vA).mono ?_; rintro e W3 ⟨rfl, b3⟩; have A3 := Lib.hid (A2.out.later b3); clear b3)
      | (refine wpList_load_midG rfl 30 (.tmp 2) rfl w.heap.size 0 rfl cs _ A3.out.rA Tryd.underlying30 rfl A3.out.vA.info ?_)
      | (go_at_call 14; with_reducible refine (F3.out W3 A3.out.vA).mono ?_; rintro e W4 ⟨rfl, b4⟩; have A4 := Lib.hid (A3.out.later b4); have c31 := HD.out W4 A4.out; clear b4)
      | (go_at_call 6; with_reducible refine (awake_any W4 A4.out.env).mono ?_; rintro e W5 ⟨rfl, b5⟩; have A5 := Lib.hid (A4.out.later b5); clear b5))
    go_ret
    exact ⟨rfl, A5.out.below⟩
end Go.Proofs.YtnfkimhhgflfjaaDoor.Rep
