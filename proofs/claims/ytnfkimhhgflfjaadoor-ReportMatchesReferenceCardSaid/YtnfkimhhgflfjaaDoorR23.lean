/- gaolerlaw28.awake, walked. -/
import Derived.Test.YtnfkimhhgflfjaaDoorR22
namespace Go.Proofs.YtnfkimhhgflfjaaDoor.Rep
open Go Go.RowKit Go.Shelf
set_option linter.unusedVariables false
set_option linter.unusedSimpArgs false
/-! ### gaolerlaw28.awake, walked -/
theorem aw_cells (p : Option Addr) (c : Nat) (q : Option Addr) (d : Nat) : (vcs { awV with pc := 0 } p c q d).set 16 (.int .u32 8) = vcs awV p c q d := rfl
theorem aw0_wf : ({ awV with pc := 0 } : Vp).wf := ⟨rfl, rfl, by unfold w32; dsimp only; omega, awV_wf.done, awV_wf.log, awV_wf.r32, awV_wf.c32⟩
set_option maxHeartbeats 1000000 in
/-- What stands behind awake's second statement. -/
theorem aw_start (w : World) (hE : Env w) : ∃ W3 W4 W5 : World, ∃ bs cs : List Value,
    (((w.alloc (.cells #[.int .u8 0, .int .u8 255] 5)).alloc (.cells #[.int .i64 3, .int .i64 2, .int .u64 18446744073709551615] 49)).alloc (.cells #[Value.int .u32 0, Value.int .u32 0, Value.int .u32 0, Value.int .u32 0, Value.int .u32 0, Value.int .u32 0, Value.int .u32 0, Value.int .u32 0, Value.int .u32 0, Value.int .u32 0, Value.int .u32 0, Value.int .u32 0, Value.int .u32 0, Value.int .u32 0, Value.int .u32 0, Value.int .u32 0, Value.int .u32 0, Value.int .u32 0, Value.int .u32 0, Value.int .u32 0, Value.int .u32 0, Value.int .u32 0, Value.int .u32 0, Value.int .u32 0, Value.int .u32 0, Value.int .u32 0, Value.int .u32 0, Value.int .u32 0, Value.int .u32 0, .slice none 0 0, .bool false, .int .i64 0, .slice none 0 0] 30)) = W3 ∧
    W3.setCells (w.heap.size + 1 + 1) 0 bs = W4 ∧ W4.setCell ⟨w.heap.size + 1 + 1, 16, none⟩ (.int .u32 8) = W5 ∧
    (Value.agg #[Value.int .u32 0, Value.int .u32 0, Value.int .u32 0, Value.int .u32 0, Value.int .u32 0, Value.int .u32 0, Value.int .u32 0, Value.int .u32 0, Value.int .u32 0, Value.int .u32 0, Value.int .u32 0, Value.int .u32 0, Value.int .u32 0, Value.int .u32 0, Value.int .u32 0, Value.int .u32 0, Value.int .u32 0, Value.int .u32 0, Value.int .u32 0, Value.int .u32 0, Value.int .u32 0, Value.int .u32 0, Value.int .u32 0, Value.int .u32 0, Value.int .u32 0, Value.int .u32 0, Value.int .u32 0, Value.int .u32 0, Value.int .u32 0, .slice (some ⟨w.heap.size, 0, none⟩) 2 2, .bool true, .int .i64 5, .slice (some ⟨w.heap.size + 1, 0, none⟩) 1 1]) = .agg bs.toArray ∧ bs.length = 33 ∧ (∀ u ∈ bs, u.oneCell' = true) ∧
    VBox W3 (w.heap.size + 1 + 1) (fl (.slice none 0 0) false) ∧ VBox W4 (w.heap.size + 1 + 1) bs ∧ bs[16]? = some (.int .u32 0) ∧ VBox W5 (w.heap.size + 1 + 1) cs ∧ VC W5 cs awV ∧ cs.length = 33 ∧ Below w.heap.size w W5 ∧ w.heap.size + 1 + 1 < W5.heap.size := by
  obtain ⟨W1, hW1⟩ : ∃ W1, w.alloc (.cells #[.int .u8 0, .int .u8 255] 5) = W1 := ⟨_, rfl⟩
  obtain ⟨W2, hW2⟩ : ∃ W2, W1.alloc (.cells #[.int .i64 3, .int .i64 2, .int .u64 18446744073709551615] 49) = W2 := ⟨_, rfl⟩
  obtain ⟨W3, hW3⟩ : ∃ W3, W2.alloc (.cells #[Value.int .u32 0, Value.int .u32 0, Value.int .u32 0, Value.int .u32 0, Value.int .u32 0, Value.int .u32 0, Value.int .u32 0, Value.int .u32 0, Value.int .u32 0, Value.int .u32 0, Value.int .u32 0, Value.int .u32 0, Value.int .u32 0, Value.int .u32 0, Value.int .u32 0, Value.int .u32 0, Value.int .u32 0, Value.int .u32 0, Value.int .u32 0, Value.int .u32 0, Value.int .u32 0, Value.int .u32 0, Value.int .u32 0, Value.int .u32 0, Value.int .u32 0, Value.int .u32 0, Value.int .u32 0, Value.int .u32 0, Value.int .u32 0, .slice none 0 0, .bool false, .int .i64 0, .slice none 0 0] 30) = W3 := ⟨_, rfl⟩
  have z1 : W1.heap.size = w.heap.size + 1 := by rw [← hW1]; simp
  have z2 : W2.heap.size = w.heap.size + 1 + 1 := by rw [← hW2]; simp [z1]
  have b1 : Below w.heap.size w W1 := by rw [← hW1]; exact (Below.refl w.heap.size w).alloc (Nat.le_refl _) _
  have b2 : Below W1.heap.size W1 W2 := by rw [← hW2]; exact (Below.refl W1.heap.size W1).alloc (Nat.le_refl _) _
  have b3 : Below W2.heap.size W2 W3 := by rw [← hW3]; exact (Below.refl W2.heap.size W2).alloc (Nat.le_refl _) _
  have b13 : Below W1.heap.size W1 W3 := b2.trans (b3.mono b2.size)
  have bw3 : Below w.heap.size w W3 := b1.trans (b13.mono b1.size)
  have V3 : VBox W3 (w.heap.size + 1 + 1) (fl (.slice none 0 0) false) := by rw [← z2, ← hW3]; exact VBox.newZ W2
  obtain ⟨bs, hbs⟩ : ∃ bs, vcs { awV with pc := 0 } (some ⟨w.heap.size, 0, none⟩) 2 (some ⟨w.heap.size + 1, 0, none⟩) 1 = bs := ⟨_, rfl⟩
  have hlen : bs.length = 33 := by rw [← hbs]; exact vcs_len aw0_wf _ _ _ _
  have hone := vcs_one { awV with pc := 0 } (some ⟨w.heap.size, 0, none⟩) 2 (some ⟨w.heap.size + 1, 0, none⟩) 1
  rw [hbs] at hone
  have V4 := V3.all bs hlen
  have V5 := V4.set hlen 16 (by omega) (.int .u32 8)
  have hcs : bs.set 16 (.int .u32 8) = vcs awV (some ⟨w.heap.size, 0, none⟩) 2 (some ⟨w.heap.size + 1, 0, none⟩) 1 := by rw [← hbs]; rfl
  have b35 : Below W2.heap.size W2 ((W3.setCells (w.heap.size + 1 + 1) 0 bs).setCell ⟨w.heap.size + 1 + 1, 16, none⟩ (.int .u32 8)) :=
    (below_cells' (by omega) bs 0 W3 b3).setCell (p := ⟨w.heap.size + 1 + 1, 16, none⟩) (by show W2.heap.size ≤ w.heap.size + 1 + 1; omega) _
  have b15 := b2.trans (b35.mono b2.size)
  have bw5 := b1.trans (b15.mono b1.size)
  refine ⟨W3, _, _, bs, vcs awV (some ⟨w.heap.size, 0, none⟩) 2 (some ⟨w.heap.size + 1, 0, none⟩) 1, by rw [hW1, hW2, hW3], rfl, rfl, by rw [← hbs]; rfl, hlen, hone, V3, V4, by rw [← hbs]; rfl, by rw [← hcs]; exact V5, ⟨awV_wf, _, _, _, _, rfl, ?_, ?_⟩, vcs_len awV_wf _ _ _ _, bw5, by rw [size_setCell', size_setCells]; exact V3.lt⟩
  · intro k x hk
    have hb : (W3.setCells (w.heap.size + 1 + 1) 0 bs |>.setCell ⟨w.heap.size + 1 + 1, 16, none⟩ (.int .u32 8)).heap[w.heap.size]? = some (.cells #[.int .u8 0, .int .u8 255] 5) := by
      rw [b15.block w.heap.size (by omega), ← hW1]; exact World.alloc_heap_new w _
    refine ⟨⟨w.heap.size, 0, none⟩, rfl, ?_, ?_⟩
    · rw [add_block]; exact Nat.lt_of_lt_of_le (show w.heap.size < W1.heap.size by omega) b15.size
    · have hn := World.news_of_block hb k (.int .u8 (x.toNat : Int)) (by
        unfold awV at hk
        match k with
        | 0 => simp at hk; subst hk; rfl
        | 1 => simp at hk; subst hk; rfl
        | n + 2 => simp at hk)
      exact hn
  · intro k e hk
    have hb : (W3.setCells (w.heap.size + 1 + 1) 0 bs |>.setCell ⟨w.heap.size + 1 + 1, 16, none⟩ (.int .u32 8)).heap[w.heap.size + 1]? = some (.cells #[.int .i64 3, .int .i64 2, .int .u64 18446744073709551615] 49) := by
      rw [b35.block (w.heap.size + 1) (by omega), ← hW2, ← z1]; exact World.alloc_heap_new W1 _
    unfold awV at hk
    match k with
    | 0 =>
      simp at hk
      subst hk
      refine ⟨⟨w.heap.size + 1, 0, none⟩, rfl, Nat.lt_of_lt_of_le (by show w.heap.size + 1 < W2.heap.size; omega) b35.size, fun j u hu => ?_⟩
      exact World.news_of_block hb j u hu
    | n + 1 => simp at hk
end Go.Proofs.YtnfkimhhgflfjaaDoor.Rep
