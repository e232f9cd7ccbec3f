/- gaolerref16.Few and gaolerref28.Bare, walked. -/
import Derived.Test.YtnfkimhhgflfjaaDoorR18
namespace Go.Proofs.YtnfkimhhgflfjaaDoor.Rep
open Go Go.RowKit Go.Shelf
set_option linter.unusedVariables false
set_option linter.unusedSimpArgs false
/-! ### gaolerref16.Few, gaolerref28.Bare -/
def fewV (v : Vp) : Bool := decide (v.out.length ≤ 600) && decide (v.log.length ≤ 600)
set_option maxRecDepth 100000 in
set_option maxHeartbeats 4000000 in
theorem few_any (cs : List Value) (v : Vp) (W : World) (h : VC W cs v) : Calls Tryd.prog 7 #[.agg cs.toArray] W fun e w' => e = .returned (.bool (fewV v)) ∧ Below W.heap.size W w' := by
  obtain ⟨p, c, q, d, hcs, _, _⟩ := h.cells
  have wf := h.wf
  have kA : ∀ j x, cs[j]? = some x → (W.alloc (.cells cs.toArray 30)).cell? ⟨W.heap.size, j, none⟩ = some x := fun j x h => by
    rw [World.cell?_alloc_new]
    simpa using h
  have B0 := Lib.hid ((Below.refl W.heap.size W).alloc (Nat.le_refl _) (.cells cs.toArray 30))
  have a29 := kA 29 (.slice p v.out.length c) (by rw [hcs]; exact vcs_end wf p c q d 0)
  have a32 := kA 32 (.slice q v.log.length d) (by rw [hcs]; exact vcs_end wf p c q d 3)
  unfold fewV
  obtain ⟨n, hn⟩ : ∃ n, v.out.length = n := ⟨_, rfl⟩
  obtain ⟨m, hm⟩ : ∃ n, v.log.length = n := ⟨_, rfl⟩
  rw [hn] at a29
  rw [hm] at a32
  rw [hn, hm]
  clear kA hcs h wf hn hm
  by_cases h1 : n ≤ 600
  · have e1 : decide ((n : Int) ≤ 600) = true := decide_eq_true (by omega)
    rw [decide_eq_true h1, Bool.true_and]
    by_cases h2 : m ≤ 600
    · have e2 : decide ((m : Int) ≤ 600) = true := decide_eq_true (by omega)
      rw [decide_eq_true h2]
      clear h1 h2
      go_enter Tryd.func7, Tryd.ntmps7
      go_wp2
      go_ret
      exact ⟨rfl, B0.out⟩
    · have e2 : decide ((m : Int) ≤ 600) = false := decide_eq_false (by omega)
      rw [decide_eq_false h2]
      clear h1 h2
      go_enter Tryd.func7, Tryd.ntmps7
      go_wp2
      go_ret
      exact ⟨rfl, B0.out⟩
  · have e1 : decide ((n : Int) ≤ 600) = false := decide_eq_false (by omega)
    rw [decide_eq_false h1, Bool.false_and]
    clear h1
    go_enter Tryd.func7, Tryd.ntmps7
    go_wp2
    go_ret
    exact ⟨rfl, B0.out⟩
/-- A function's answer is this virtual CPU. -/
def AggE (v : Vp) (e : Ending) (w' : World) : Prop := ∃ ds, VC w' ds v ∧ e = .returned (.agg ds.toArray)
theorem bareV_wf {v : Vp} (h : v.wf) : (bareV v).wf :=
  ⟨rfl, rfl, h.pc, h.done, h.log, fun z hz => by unfold bareV at hz; rw [List.eq_of_mem_replicate hz]; unfold w32; omega, fun z hz => by unfold bareV at hz; rw [List.eq_of_mem_replicate hz]; unfold w32; omega⟩
theorem bare_cells (v : Vp) (p : Option Addr) (c : Nat) (q : Option Addr) (d : Nat) : (vcs { bareV v with pc := 0 } p c q d).set 16 (.int .u32 v.pc) = vcs (bareV v) p c q d := rfl
theorem VC.new {W w' : World} {cs : List Value} {v : Vp} {p : Option Addr} {c : Nat} {q : Option Addr} {d : Nat} (hb : Bytes W p v.out) (he : Evs W q v.log) (hw : v.wf) (h : Below W.heap.size W w') (hc : cs = vcs v p c q d) : VC w' cs v :=
  ⟨hw, p, c, q, d, hc, hb.later h, he.later h⟩
set_option maxRecDepth 100000 in
set_option maxHeartbeats 2000000 in
theorem bare_any (cs : List Value) (v : Vp) (W : World) (h : VC W cs v) : Calls Tryd.prog 13 #[.agg cs.toArray] W fun e w' => AggE (bareV v) e w' ∧ Below W.heap.size W w' := by
  obtain ⟨p, c, q, d, hcs, hb, he⟩ := h.cells
  have wf := h.wf
  obtain ⟨W0, hW0⟩ : ∃ W0, W.alloc (.cells cs.toArray 30) = W0 := ⟨_, rfl⟩
  obtain ⟨W1, hW1⟩ : ∃ W1, W0.alloc (.cells #[Value.int .u32 0, Value.int .u32 0, Value.int .u32 0, Value.int .u32 0, Value.int .u32 0, Value.int .u32 0, Value.int .u32 0, Value.int .u32 0, Value.int .u32 0, Value.int .u32 0, Value.int .u32 0, Value.int .u32 0, Value.int .u32 0, Value.int .u32 0, Value.int .u32 0, Value.int .u32 0, Value.int .u32 0, Value.int .u32 0, Value.int .u32 0, Value.int .u32 0, Value.int .u32 0, Value.int .u32 0, Value.int .u32 0, Value.int .u32 0, Value.int .u32 0, Value.int .u32 0, Value.int .u32 0, Value.int .u32 0, Value.int .u32 0, .slice none 0 0, .bool false, .int .i64 0, .slice none 0 0] 30) = W1 := ⟨_, rfl⟩
  obtain ⟨W2, hW2⟩ : ∃ W2, W1.alloc (.cells #[Value.int .u32 0, Value.int .u32 0, Value.int .u32 0, Value.int .u32 0, Value.int .u32 0, Value.int .u32 0, Value.int .u32 0, Value.int .u32 0, Value.int .u32 0, Value.int .u32 0, Value.int .u32 0, Value.int .u32 0, Value.int .u32 0, Value.int .u32 0, Value.int .u32 0, Value.int .u32 0, Value.int .u32 0, Value.int .u32 0, Value.int .u32 0, Value.int .u32 0, Value.int .u32 0, Value.int .u32 0, Value.int .u32 0, Value.int .u32 0, Value.int .u32 0, Value.int .u32 0, Value.int .u32 0, Value.int .u32 0, Value.int .u32 0, .slice none 0 0, .bool false, .int .i64 0, .slice none 0 0] 30) = W2 := ⟨_, rfl⟩
  have z0 : W0.heap.size = W.heap.size + 1 := by rw [← hW0]; simp
  have z1 : W1.heap.size = W.heap.size + 1 + 1 := by rw [← hW1]; simp [z0]
  have b0 : Below W.heap.size W W0 := by rw [← hW0]; exact (Below.refl W.heap.size W).alloc (Nat.le_refl _) _
  have b1 : Below W0.heap.size W0 W1 := by rw [← hW1]; exact (Below.refl W0.heap.size W0).alloc (Nat.le_refl _) _
  have b2 : Below W1.heap.size W1 W2 := by rw [← hW2]; exact (Below.refl W1.heap.size W1).alloc (Nat.le_refl _) _
  have b12 : Below W0.heap.size W0 W2 := b1.trans (b2.mono b1.size)
  have BW : Hid (Below W.heap.size W W2) := Lib.hid (b0.trans (b12.mono b0.size))
  have kA : ∀ j x, cs[j]? = some x → W1.cell? ⟨W.heap.size, j, none⟩ = some x := fun j x h => by
    rw [b1.cell (p := ⟨W.heap.size, j, none⟩) (by show W.heap.size < W0.heap.size; omega), ← hW0, World.cell?_alloc_new]
    simpa using h
  have V1 : VBox W2 (W.heap.size + 1) (fl (.slice none 0 0) false) := by rw [← z0]; exact VBox.later (by rw [← hW1]; exact VBox.newZ W0) b2
  have V2 : VBox W2 (W.heap.size + 1 + 1) (fl (.slice none 0 0) false) := by rw [← z1, ← hW2]; exact VBox.newZ W1
  have a16 := kA 16 (.int .u32 v.pc) (by rw [hcs]; exact vcs_pc wf p c q d)
  have a29 := kA 29 (.slice p v.out.length c) (by rw [hcs]; exact vcs_end wf p c q d 0)
  have a30 := kA 30 (.bool v.halted) (by rw [hcs]; exact vcs_end wf p c q d 1)
  have a31 := kA 31 (.int .i64 v.done) (by rw [hcs]; exact vcs_end wf p c q d 2)
  have a32 := kA 32 (.slice q v.log.length d) (by rw [hcs]; exact vcs_end wf p c q d 3)
  obtain ⟨bs, hbs⟩ : ∃ bs, vcs { bareV v with pc := 0 } p c q d = bs := ⟨_, rfl⟩
  have hwz : ({ bareV v with pc := 0 } : Vp).wf := ⟨rfl, rfl, by unfold w32; dsimp only; omega, (bareV_wf wf).done, (bareV_wf wf).log, (bareV_wf wf).r32, (bareV_wf wf).c32⟩
  have hlen : bs.length = 33 := by rw [← hbs]; exact vcs_len hwz p c q d
  have hone := vcs_one { bareV v with pc := 0 } p c q d
  rw [hbs] at hone
  have hall := all_oneCell_toArray hone
  have hi33 : (Tryd.prog.info? 30).map (·.size) = some bs.length := by rw [hlen]; exact size30
  have hi33a : (Tryd.prog.info? 30).map (·.size) = some bs.toArray.size := hi33
  have ht2 : W2.there (W.heap.size + 1 + 1) 0 bs.toArray.size := by have h0 := V2.there; rw [← hlen] at h0; exact h0
  have hval : (Value.agg #[Value.int .u32 0, Value.int .u32 0, Value.int .u32 0, Value.int .u32 0, Value.int .u32 0, Value.int .u32 0, Value.int .u32 0, Value.int .u32 0, Value.int .u32 0, Value.int .u32 0, Value.int .u32 0, Value.int .u32 0, Value.int .u32 0, Value.int .u32 0, Value.int .u32 0, Value.int .u32 0, Value.int .u32 0, Value.int .u32 0, Value.int .u32 0, Value.int .u32 0, Value.int .u32 0, Value.int .u32 0, Value.int .u32 0, Value.int .u32 0, Value.int .u32 0, Value.int .u32 0, Value.int .u32 0, Value.int .u32 0, Value.int .u32 0, .slice p v.out.length c, .bool v.halted, .int .i64 v.done, .slice q v.log.length d]) = .agg bs.toArray := by rw [← hbs]; rfl
  obtain ⟨W3, hW3⟩ : ∃ W3, W2.setCells (W.heap.size + 1 + 1) 0 bs = W3 := ⟨_, rfl⟩
  have V3 : VBox W3 (W.heap.size + 1 + 1) bs := hW3 ▸ V2.all bs hlen
  have V13 : VBox W3 (W.heap.size + 1) (fl (.slice none 0 0) false) := hW3 ▸ V1.all_other (by omega) bs
  have B3 : Hid (Below W.heap.size W W3) := Lib.hid (hW3 ▸ below_cells' (by omega) bs 0 W2 BW.out)
  have c16 := V3.cell 16 (.int .u32 0) (by rw [← hbs]; exact vcs_pc hwz p c q d)
  have f16 := V3.free 16 (by omega)
  have a16' : W2.cell? ⟨W.heap.size, 16, none⟩ = some (.int .u32 v.pc) := (b2.cell (p := ⟨W.heap.size, 16, none⟩) (World.block_lt_of_cell? W1 _ a16)).trans a16
  have n16 : W3.cell? ⟨W.heap.size, 16, none⟩ = some (.int .u32 v.pc) := by
    rw [← hW3]
    exact ((grown_cells (W.heap.size + 1 + 1) bs 0 W2).cell_far ⟨W.heap.size, 16, none⟩ (World.block_lt_of_cell? W2 _ a16') (some_ne (by show W.heap.size ≠ _; omega))).trans a16'
  obtain ⟨W4, hW4⟩ : ∃ W4, W3.setCell ⟨W.heap.size + 1 + 1, 16, none⟩ (.int .u32 v.pc) = W4 := ⟨_, rfl⟩
  have V4 : VBox W4 (W.heap.size + 1 + 1) (bs.set 16 (.int .u32 v.pc)) := hW4 ▸ V3.set hlen 16 (by omega) _
  have V5 : VBox W4 (W.heap.size + 1) (fl (.slice none 0 0) false) := hW4 ▸ V13.other (by omega) _
  have B4 : Hid (Below W.heap.size W W4) := Lib.hid (hW4 ▸ B3.out.setCell (p := ⟨W.heap.size + 1 + 1, 16, none⟩) (by show W.heap.size ≤ W.heap.size + 1 + 1; omega) _)
  obtain ⟨ds, hds⟩ : ∃ ds, bs.set 16 (.int .u32 v.pc) = ds := ⟨_, rfl⟩
  have hdv : ds = vcs (bareV v) p c q d := by rw [← hds, ← hbs]; exact bare_cells v p c q d
  rw [hds] at V4
  have hlend : ds.length = 33 := by rw [← hds, List.length_set]; exact hlen
  have honed := vcs_one (bareV v) p c q d
  rw [← hdv] at honed
  have halld := all_oneCell_toArray honed
  have hi33d : (Tryd.prog.info? 30).map (·.size) = some ds.length := by rw [hlend]; exact size30
  have hi33da : (Tryd.prog.info? 30).map (·.size) = some ds.toArray.size := hi33d
  have ht5 : W4.there (W.heap.size + 1) 0 ds.toArray.size := by have h0 := V5.there; rw [← hlend] at h0; exact h0
  have R6 := V5.all ds hlend
  have B6 : Hid (Below W.heap.size W (W4.setCells (W.heap.size + 1) 0 ds)) := Lib.hid (below_cells' (by omega) ds 0 _ B4.out)
  have VN : Hid (VC (W4.setCells (W.heap.size + 1) 0 ds) ds (bareV v)) := Lib.hid (VC.new (v := bareV v) hb he (bareV_wf wf) B6.out hdv)
  have r4 := Lib.hid V4.range
  have r6 := Lib.hid R6.range
  have Xht5 := Lib.hid ht5
  clear ht5
  have Xht2 := Lib.hid ht2
  clear ht2
  have Xhone := Lib.hid hone
  clear hone
  have Xhoned := Lib.hid honed
  clear honed
  have Xhi33 := Lib.hid hi33
  clear hi33
  have Xhi33a := Lib.hid hi33a
  clear hi33a
  have Xhi33d := Lib.hid hi33d
  clear hi33d
  have Xhi33da := Lib.hid hi33da
  clear hi33da
  have Xhall := Lib.hid hall
  clear hall
  have Xhalld := Lib.hid halld
  clear halld
  have Xhval := Lib.hid hval
  clear hval
  have HW1 : Hid ((W.alloc (.cells cs.toArray 30)).alloc (.cells #[Value.int .u32 0, Value.int .u32 0, Value.int .u32 0, Value.int .u32 0, Value.int .u32 0, Value.int .u32 0, Value.int .u32 0, Value.int .u32 0, Value.int .u32 0, Value.int .u32 0, Value.int .u32 0, Value.int .u32 0, Value.int .u32 0, Value.int .u32 0, Value.int .u32 0, Value.int .u32 0, Value.int .u32 0, Value.int .u32 0, Value.int .u32 0, Value.int .u32 0, Value.int .u32 0, Value.int .u32 0, Value.int .u32 0, Value.int .u32 0, Value.int .u32 0, Value.int .u32 0, Value.int .u32 0, Value.int .u32 0, Value.int .u32 0, .slice none 0 0, .bool false, .int .i64 0, .slice none 0 0] 30) = W1) := Lib.hid (by rw [hW0, hW1])
  have HW2 := Lib.hid hW2
  have HW3 := Lib.hid hW3
  have HW4 := Lib.hid hW4
  have Z1 := Lib.hid z1
  clear hb he h V1 V2 V3 V4 V5 V13 R6 b0 b1 b2 b12 kA hwz hbs hds hdv hcs hW0 hW1 hW2 hW3 hW4 hlen hlend z0 z1 a16 a16' BW B3 B4
  go_enter Tryd.func13, Tryd.ntmps13
  go_upto_region 1 with (fail)
  simp only [HW1.out]
  have z1 := Z1.out
  have HT2 : Hid (∀ g w', g = W.heap.size + 1 + 1 → w' = W2 → w'.there g 0 bs.toArray.size) := Lib.hid (fun g w' e1 e2 => by rw [e1, e2]; exact Xht2.out)
  clear wf
  go_upto_region 3 with (first
    | (refine wpList_store_mid rfl 30 (.tmp 3) (.tmp 12) rfl W1.heap.size 0 bs.toArray rfl Xhval.out (HT2.out _ _ z1 HW2.out) Xhi33a.out Xhall.out ?_; simp only [z1, HW2.out, HW3.out, List.toList_toArray])
    | (refine wpList_store_mid rfl 30 (.tmp 3) (.tmp 12) rfl (W.heap.size + 1 + 1) 0 bs.toArray rfl Xhval.out (HT2.out _ _ rfl HW2.out) Xhi33a.out Xhall.out ?_; simp only [z1, HW2.out, HW3.out, List.toList_toArray]))
  simp only [HW4.out]
  clear c16 f16 n16 a29 a30 a31 a32 z1 Xhval HT2 HW1 HW2 HW3
  go_wp2_with (first
    | (refine wpList_load_mid rfl 30 (.tmp 3) rfl (W.heap.size + 1 + 1) 0 rfl ds _ r4.out Tryd.underlying30 rfl Xhi33d.out ?_)
    | (refine wpList_store_mid rfl 30 (.tmp 2) (.tmp 18) rfl (W.heap.size + 1) 0 ds.toArray rfl rfl Xht5.out Xhi33da.out Xhalld.out ?_; simp only [List.toList_toArray]))
  refine bodyPost_ret (v := .agg ds.toArray) (results_cell_mid rfl _ _ (W.heap.size + 1) ds _ rfl r6.out Tryd.underlying30 rfl Xhi33d.out) rfl ?_
  exact ⟨⟨ds, VN.out, rfl⟩, B6.out⟩
end Go.Proofs.YtnfkimhhgflfjaaDoor.Rep
