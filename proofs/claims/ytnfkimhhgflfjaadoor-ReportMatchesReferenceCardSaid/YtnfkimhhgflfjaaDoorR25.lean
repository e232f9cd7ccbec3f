/- gaolerlaw28.ReportParseFormatted, walked: the ways out at its head. -/
import Derived.Test.YtnfkimhhgflfjaaDoorR24
namespace Go.Proofs.YtnfkimhhgflfjaaDoor.Rep
open Go Go.RowKit Go.Shelf
set_option linter.unusedVariables false
set_option linter.unusedSimpArgs false
/-! ### gaolerlaw28.ReportParseFormatted, walked: the ways out at its head -/
/-- What stands throughout the law: its two boxed arguments. -/
structure L4 (w : World) (cs ds : List Value) (u v : Vp) (W : World) : Prop where
  env : Env W
  below : Below w.heap.size w W
  lt : w.heap.size + 1 < W.heap.size
  rA : W.rangeAt w.heap.size 0 cs
  rB : W.rangeAt (w.heap.size + 1) 0 ds
  vA : VC W cs u
  vB : VC W ds v
theorem range_later {W W' : World} {b : Nat} {cs : List Value} (hr : W.rangeAt b 0 cs) (hlt : b < W.heap.size) (hb : Below W.heap.size W W') : W'.rangeAt b 0 cs := fun j x hj => (hb.cell (p := ⟨b, 0 + j, none⟩) hlt).trans (hr j x hj)
theorem L4.later {w W W' : World} {cs ds : List Value} {u v : Vp} (h : L4 w cs ds u v W) (hb : Below W.heap.size W W') : L4 w cs ds u v W' :=
  ⟨h.env.later hb, h.below.trans (hb.mono h.below.size), Nat.lt_of_lt_of_le h.lt hb.size, range_later h.rA (by have := h.lt; omega) hb, range_later h.rB h.lt hb, h.vA.later hb, h.vB.later hb⟩
theorem l4_start (w : World) (hE : Env w) (cs ds : List Value) (u v : Vp) (hu : VC w cs u) (hv : VC w ds v) {W1 : World} (hW : (w.alloc (.cells cs.toArray 30)).alloc (.cells ds.toArray 30) = W1) : L4 w cs ds u v W1 := by
  obtain ⟨W0, hW0⟩ : ∃ W0, w.alloc (.cells cs.toArray 30) = W0 := ⟨_, rfl⟩
  rw [hW0] at hW
  have z0 : W0.heap.size = w.heap.size + 1 := by rw [← hW0]; simp
  have b0 : Below w.heap.size w W0 := by rw [← hW0]; exact (Below.refl w.heap.size w).alloc (Nat.le_refl _) _
  have b1 : Below W0.heap.size W0 W1 := by rw [← hW]; exact (Below.refl W0.heap.size W0).alloc (Nat.le_refl _) _
  have bw : Below w.heap.size w W1 := b0.trans (b1.mono b0.size)
  refine ⟨hE.later bw, bw, by rw [← hW, World.size_alloc]; omega, range_later (fun j x hj => ?_) (by omega) b1, fun j x hj => ?_, hu.later bw, hv.later bw⟩
  · rw [Nat.zero_add, ← hW0, World.cell?_alloc_new]; simpa using hj
  · rw [Nat.zero_add, ← hW, ← z0, World.cell?_alloc_new]; simpa using hj
set_option maxRecDepth 100000 in
set_option maxHeartbeats 8000000 in
theorem law4_out (cs ds : List Value) (u v : Vp) (l : List UInt8) (w : World) (hE : Env w) (hu : VC w cs u) (hv : VC w ds v) (hno : fewV u = false ∨ (fewV u = true ∧ fewV v = false) ∨ (fewV u = true ∧ fewV v = true ∧ 2000 < l.length)) :
    Calls Tryd.prog 4 #[.agg cs.toArray, .agg ds.toArray, .string ⟨l.toArray⟩] w fun e w' => e = .returned (.bool true) ∧ Below w.heap.size w w' := by
  obtain ⟨S, hS⟩ : ∃ S : ByteArray, ⟨l.toArray⟩ = S := ⟨_, rfl⟩
  have hsz : S.size = l.length := by rw [← hS]; exact List.size_toArray
  rw [hS]
  obtain ⟨W1, hW1⟩ : ∃ W1, (w.alloc (.cells cs.toArray 30)).alloc (.cells ds.toArray 30) = W1 := ⟨_, rfl⟩
  have X1 := Lib.hid hW1
  have A1 := Lib.hid (l4_start w hE cs ds u v hu hv hW1)
  have F1 : Hid (∀ W, VC W cs u → Calls Tryd.prog 7 #[.agg cs.toArray] W fun e w' => e = .returned (.bool (fewV u)) ∧ Below W.heap.size W w') := Lib.hid (fun W h => few_any cs u W h)
  have F2 : Hid (∀ W, VC W ds v → Calls Tryd.prog 7 #[.agg ds.toArray] W fun e w' => e = .returned (.bool (fewV v)) ∧ Below W.heap.size W w') := Lib.hid (fun W h => few_any ds v W h)
  clear hW1 hS hE hu hv
  rcases hno with h1 | ⟨h1, h2⟩ | ⟨h1, h2, h3⟩
  · rw [h1] at F1
    clear h1 F2
    go_enter Tryd.func4, Tryd.ntmps4
    go_upto_region 1 with (fail)
    simp only [X1.out]
    go_wp2_with (first
      | (go_at_call 6; with_reducible refine (awake_any W1 A1.out.env).mono ?_; rintro e W2 ⟨rfl, b2⟩; have A2 := Lib.hid (A1.out.later b2); clear b2)
      | (refine wpList_load_midG rfl 30 (.tmp 3) rfl w.heap.size 0 rfl cs _ A2.out.rA Tryd.underlying30 rfl A2.out.vA.info ?_)
      | (go_at_call 7; with_reducible refine (F1.out W2 A2.out.vA).mono ?_; rintro e W3 ⟨rfl, b3⟩; have A3 := Lib.hid (A2.out.later b3); clear b3)
      | (go_at_call 6; with_reducible refine (awake_any W3 A3.out.env).mono ?_; rintro e W4 ⟨rfl, b4⟩; have A4 := Lib.hid (A3.out.later b4); clear b4))
    go_ret
    exact ⟨rfl, A4.out.below⟩
  · rw [h1] at F1
    rw [h2] at F2
    clear h1 h2
    go_enter Tryd.func4, Tryd.ntmps4
    go_upto_region 1 with (fail)
    simp only [X1.out]
    go_wp2_with (first
      | (go_at_call 6; with_reducible refine (awake_any W1 A1.out.env).mono ?_; rintro e W2 ⟨rfl, b2⟩; have A2 := Lib.hid (A1.out.later b2); clear b2)
      | (refine wpList_load_midG rfl 30 (.tmp 3) rfl w.heap.size 0 rfl cs _ A2.out.rA Tryd.underlying30 rfl A2.out.vA.info ?_)
      | (go_at_call 7; with_reducible refine (F1.out W2 A2.out.vA).mono ?_; rintro e W3 ⟨rfl, b3⟩; have A3 := Lib.hid (A2.out.later b3); clear b3)
      | (refine wpList_load_midG rfl 30 (.tmp 4) rfl (w.heap.size + 1) 0 rfl ds _ A3.out.rB Tryd.underlying30 rfl A3.out.vB.info ?_)
      | (go_at_call 7; with_reducible refine (F2.out W3 A3.out.vB).mono ?_; rintro e W4 ⟨rfl, b4⟩; have A4 := Lib.hid (A3.out.later b4); clear b4)
      | (go_at_call 6; with_reducible refine (awake_any W4 A4.out.env).mono ?_; rintro e W5 ⟨rfl, b5⟩; have A5 := Lib.hid (A4.out.later b5); clear b5))
    go_ret
    exact ⟨rfl, A5.out.below⟩
  · rw [h1] at F1
    rw [h2] at F2
    have q0 : (2000 : Int) < (S.size : Int) := by omega
    have q1 : decide ((2000 : Int) < (S.size : Int)) = true := decide_eq_true q0
    clear h1 h2 h3 hsz
    go_enter Tryd.func4, Tryd.ntmps4
    go_upto_region 1 with (fail)
    simp only [X1.out]
    go_wp2_with (first
      | (go_at_call 6; with_reducible refine (awake_any W1 A1.out.env).mono ?_; rintro e W2 ⟨rfl, b2⟩; have A2 := Lib.hid (A1.out.later b2); clear b2)
      | (refine wpList_load_midG rfl 30 (.tmp 3) rfl w.heap.size 0 rfl cs _ A2.out.rA Tryd.underlying30 rfl A2.out.vA.info ?_)
      | (go_at_call 7; with_reducible refine (F1.out W2 A2.out.vA).mono ?_; rintro e W3 ⟨rfl, b3⟩; have A3 := Lib.hid (A2.out.later b3); clear b3)
      | (refine wpList_load_midG rfl 30 (.tmp 4) rfl (w.heap.size + 1) 0 rfl ds _ A3.out.rB Tryd.underlying30 rfl A3.out.vB.info ?_)
      | (go_at_call 7; with_reducible refine (F2.out W3 A3.out.vB).mono ?_; rintro e W4 ⟨rfl, b4⟩; have A4 := Lib.hid (A3.out.later b4); clear b4)
      | (go_at_call 6; with_reducible refine (awake_any W4 A4.out.env).mono ?_; rintro e W5 ⟨rfl, b5⟩; have A5 := Lib.hid (A4.out.later b5); clear b5))
    go_ret
    exact ⟨rfl, A5.out.below⟩
end Go.Proofs.YtnfkimhhgflfjaaDoor.Rep
