/- gaolerlaw28.awake, walked whole. -/
import Derived.Test.YtnfkimhhgflfjaaDoorR23
namespace Go.Proofs.YtnfkimhhgflfjaaDoor.Rep
open Go Go.RowKit Go.Shelf
set_option linter.unusedVariables false
set_option linter.unusedSimpArgs false
/-! ### gaolerlaw28.awake, walked whole -/
theorem VC.len {W : World} {cs : List Value} {v : Vp} (h : VC W cs v) : cs.length = 33 := by
  obtain ⟨p, c, q, d, rfl, _⟩ := h.cells
  exact vcs_len h.wf _ _ _ _
theorem VC.one {W : World} {cs : List Value} {v : Vp} (h : VC W cs v) : ∀ u ∈ cs, u.oneCell' = true := by
  obtain ⟨p, c, q, d, rfl, _⟩ := h.cells
  exact vcs_one _ _ _ _ _
theorem VC.info {W : World} {cs : List Value} {v : Vp} (h : VC W cs v) : (Tryd.prog.info? 30).map (·.size) = some cs.length := by rw [h.len]; exact size30
theorem VC.infoA {W : World} {cs : List Value} {v : Vp} (h : VC W cs v) : (Tryd.prog.info? 30).map (·.size) = some cs.toArray.size := h.info
theorem newThere (W : World) {ds : List Value} (hl : ds.length = 33) : (W.alloc (.cells #[Value.int .u32 0, Value.int .u32 0, Value.int .u32 0, Value.int .u32 0, Value.int .u32 0, Value.int .u32 0, Value.int .u32 0, Value.int .u32 0, Value.int .u32 0, Value.int .u32 0, Value.int .u32 0, Value.int .u32 0, Value.int .u32 0, Value.int .u32 0, Value.int .u32 0, Value.int .u32 0, Value.int .u32 0, Value.int .u32 0, Value.int .u32 0, Value.int .u32 0, Value.int .u32 0, Value.int .u32 0, Value.int .u32 0, Value.int .u32 0, Value.int .u32 0, Value.int .u32 0, Value.int .u32 0, Value.int .u32 0, Value.int .u32 0, .slice none 0 0, .bool false, .int .i64 0, .slice none 0 0] 30)).there W.heap.size 0 ds.toArray.size := by
  have h0 := (VBox.newZ W).there
  rw [← hl] at h0
  exact h0
theorem newBox (W : World) {ds : List Value} (hl : ds.length = 33) : VBox ((W.alloc (.cells #[Value.int .u32 0, Value.int .u32 0, Value.int .u32 0, Value.int .u32 0, Value.int .u32 0, Value.int .u32 0, Value.int .u32 0, Value.int .u32 0, Value.int .u32 0, Value.int .u32 0, Value.int .u32 0, Value.int .u32 0, Value.int .u32 0, Value.int .u32 0, Value.int .u32 0, Value.int .u32 0, Value.int .u32 0, Value.int .u32 0, Value.int .u32 0, Value.int .u32 0, Value.int .u32 0, Value.int .u32 0, Value.int .u32 0, Value.int .u32 0, Value.int .u32 0, Value.int .u32 0, Value.int .u32 0, Value.int .u32 0, Value.int .u32 0, .slice none 0 0, .bool false, .int .i64 0, .slice none 0 0] 30)).setCells W.heap.size 0 ds) W.heap.size ds := (VBox.newZ W).all ds hl
theorem newBelow (W : World) (ds : List Value) : Below W.heap.size W ((W.alloc (.cells #[Value.int .u32 0, Value.int .u32 0, Value.int .u32 0, Value.int .u32 0, Value.int .u32 0, Value.int .u32 0, Value.int .u32 0, Value.int .u32 0, Value.int .u32 0, Value.int .u32 0, Value.int .u32 0, Value.int .u32 0, Value.int .u32 0, Value.int .u32 0, Value.int .u32 0, Value.int .u32 0, Value.int .u32 0, Value.int .u32 0, Value.int .u32 0, Value.int .u32 0, Value.int .u32 0, Value.int .u32 0, Value.int .u32 0, Value.int .u32 0, Value.int .u32 0, Value.int .u32 0, Value.int .u32 0, Value.int .u32 0, Value.int .u32 0, .slice none 0 0, .bool false, .int .i64 0, .slice none 0 0] 30)).setCells W.heap.size 0 ds) := below_cells' (Nat.le_refl _) ds 0 _ ((Below.refl _ W).alloc (Nat.le_refl _) _)
/-- A load of a struct behind a guard that holds. -/
theorem wpList_load_midG {ops : Array Oper} {rest : List Oper} {op : Oper} {a : Act} {w : World} {Q : Exit → Act → World → Prop} (hwt : Region.wanted op (yielded ops a.tmps) = true) (ty : TypeId) (x : Operand) (ho : op.op = .load ty x)
    (b o : Nat) (hx : a.eval x = .pointer (some ⟨b, o, none⟩)) (cs : List Value) (d : TypeDesc) (hc : w.rangeAt b o cs)
    (hu : Tryd.prog.underlying ty = some d) (hd : d.isRow = true) (hi : (Tryd.prog.info? ty).map (·.size) = some cs.length)
    (h : wpList Tryd.prog ops Q rest (a.put op.dst (.agg cs.toArray)) w) : wpList Tryd.prog ops Q (op :: rest) a w := by
  unfold wpList
  rw [if_pos hwt]
  exact .inl (wp_load_mid ty x ho b o hx cs d hc hu hd hi h)
/-- The same, its answer told apart. -/
theorem aw_p1 (W : World) (hE : Env W) : Calls Tryd.prog 10 #[.string ⟨#[103, 117, 101, 115, 116, 32, 53, 32, 56, 32, 104, 97, 108, 116, 101, 100, 32, 48, 48, 102, 102, 10, 116, 105, 109, 101, 104, 32, 50, 32, 49, 56, 52, 52, 54, 55, 52, 52, 48, 55, 51, 55, 48, 57, 53, 53, 49, 54, 49, 53, 10]⟩] W fun e w' => ∃ ds, VC w' ds awV ∧ e = .returned (.tuple #[.agg ds.toArray, .int .i64 0]) ∧ Below W.heap.size W w' :=
  (aw_parse W hE).mono fun e w' ⟨hb, ds, hv, he⟩ => ⟨ds, hv, he, hb⟩
theorem aw_p2 (W : World) (hE : Env W) : Calls Tryd.prog 10 #[.string ⟨#[103, 117, 101, 115, 116, 32, 48, 48, 32, 48, 32, 114, 117, 110, 110, 105, 110, 103, 32, 45, 10]⟩] W fun e w' => ∃ ds, VC w' ds zeroV ∧ e = .returned (.tuple #[.agg ds.toArray, .int .i64 2]) ∧ Below W.heap.size W w' :=
  (aw_parseB W hE).mono fun e w' ⟨hb, ds, hv, he⟩ => ⟨ds, hv, he, hb⟩
theorem aw_f1 (cs : List Value) (W : World) (hE : Env W) (hv : VC W cs awV) : Calls Tryd.prog 8 #[.agg cs.toArray] W fun e w' => e = .returned (.tuple #[.string ⟨#[103, 117, 101, 115, 116, 32, 53, 32, 56, 32, 104, 97, 108, 116, 101, 100, 32, 48, 48, 102, 102, 10, 116, 105, 109, 101, 104, 32, 50, 32, 49, 56, 52, 52, 54, 55, 52, 52, 48, 55, 51, 55, 48, 57, 53, 53, 49, 54, 49, 53, 10]⟩, .int .i64 0]) ∧ Below W.heap.size W w' := by
  have h := format_any cs awV W hE hv (by show 2 ≤ _; omega) (by show 1 ≤ _; omega)
  unfold fmtS fmtE at h
  rw [if_pos aw_ok, if_pos aw_ok, aw_text] at h
  exact h
theorem aw_f2 (W : World) (hE : Env W) : Calls Tryd.prog 8 #[.agg #[Value.int .u32 0, Value.int .u32 0, Value.int .u32 0, Value.int .u32 0, Value.int .u32 0, Value.int .u32 0, Value.int .u32 0, Value.int .u32 0, Value.int .u32 0, Value.int .u32 0, Value.int .u32 0, Value.int .u32 0, Value.int .u32 0, Value.int .u32 0, Value.int .u32 0, Value.int .u32 0, Value.int .u32 0, Value.int .u32 0, Value.int .u32 0, Value.int .u32 0, Value.int .u32 0, Value.int .u32 0, Value.int .u32 0, Value.int .u32 0, Value.int .u32 0, Value.int .u32 0, Value.int .u32 0, Value.int .u32 0, Value.int .u32 0, .slice none 0 0, .bool false, .int .i64 0, .slice none 0 0]] W fun e w' => e = .returned (.tuple #[.string ⟨#[103, 117, 101, 115, 116, 32, 48, 32, 48, 32, 114, 117, 110, 110, 105, 110, 103, 32, 45, 10]⟩, .int .i64 0]) ∧ Below W.heap.size W w' := aw_fmtZ W hE
set_option maxRecDepth 100000 in
set_option maxHeartbeats 8000000 in
theorem awake_any (w : World) (hE : Env w) : Calls Tryd.prog 6 #[] w fun e w' => e = .returned (.bool true) ∧ Below w.heap.size w w' := by
  obtain ⟨W3, W4, W5, bs, cs, hW3, hW4, hW5, hval, hbl, hbo, V3, V4, h16, V5, VCc, hcl, B5, lt5⟩ := aw_start w hE
  have E5 := Lib.hid (hE.below B5 hE.size)
  have c16 := V4.cell 16 _ h16
  have f16 := V4.free 16 (by omega)
  have X3 := Lib.hid hW3
  have X4 := Lib.hid hW4
  have X5 := Lib.hid hW5
  have Xval := Lib.hid hval
  have XV := Lib.hid VCc
  have R5 := Lib.hid V5
  have XB5 := Lib.hid B5
  have Xlt := Lib.hid lt5
  have Xt : Hid (∀ w', w' = W3 → w'.there (w.heap.size + 1 + 1) 0 bs.toArray.size) := Lib.hid (fun w' e => by rw [e]; have h0 := V3.there; rw [← hbl] at h0; exact h0)
  have Xi : Hid ((Tryd.prog.info? 30).map (·.size) = some bs.toArray.size) := Lib.hid (by show _ = some bs.length; rw [hbl]; exact size30)
  have Xo := Lib.hid (all_oneCell_toArray hbo)
  have F1 := Lib.hid (aw_f1 cs W5 E5.out VCc)
  clear hW3 hW4 hW5 hval hbl hbo V3 V4 h16 V5 VCc hcl B5 lt5 hE
  go_enter Tryd.func6, Tryd.ntmps6
  go_upto_region 3 with (first
    | (refine wpList_store_mid rfl 30 (.tmp 1) (.tmp 15) rfl (w.heap.size + 1 + 1) 0 bs.toArray rfl Xval.out (Xt.out _ X3.out) Xi.out Xo.out ?_; simp only [X3.out, X4.out, List.toList_toArray]))
  simp only [X5.out]
  clear c16 f16 X3 X4 X5 Xval Xt Xi Xo
  go_upto_region 4 with (first
    | (refine wpList_load_mid rfl 30 (.tmp 1) rfl (w.heap.size + 1 + 1) 0 rfl cs _ R5.out.range Tryd.underlying30 rfl XV.out.info ?_)
    | (go_at_call 8; refine F1.out.mono ?_; rintro e W6 ⟨rfl, b6⟩
       have E6 := Lib.hid (E5.out.later b6)
       have T6 := Lib.hid b6
       clear b6 F1))
  go_upto_region 5 with (first
    | (go_at_call 10; refine (aw_p1 W6 E6.out).mono ?_; rintro e W7 ⟨ds, v7, rfl, b7⟩
       have E7 := Lib.hid (E6.out.later b7)
       have T7 := Lib.hid (T6.out.trans (b7.mono T6.out.size))
       have XD := Lib.hid v7
       have N8 := Lib.hid (newBox W7 v7.len)
       have T8 := Lib.hid (newBelow W7 ds)
       have H8 := Lib.hid (newThere W7 v7.len)
       clear b7 v7)
    | (refine wpList_store_mid rfl 30 (.tmp 4) (.tmp 26) rfl W7.heap.size 0 ds.toArray rfl rfl H8.out XD.out.infoA (all_oneCell_toArray XD.out.one) ?_
       simp only [List.toList_toArray]
       obtain ⟨W8, hW8⟩ : ∃ W8, (W7.alloc (.cells #[Value.int .u32 0, Value.int .u32 0, Value.int .u32 0, Value.int .u32 0, Value.int .u32 0, Value.int .u32 0, Value.int .u32 0, Value.int .u32 0, Value.int .u32 0, Value.int .u32 0, Value.int .u32 0, Value.int .u32 0, Value.int .u32 0, Value.int .u32 0, Value.int .u32 0, Value.int .u32 0, Value.int .u32 0, Value.int .u32 0, Value.int .u32 0, Value.int .u32 0, Value.int .u32 0, Value.int .u32 0, Value.int .u32 0, Value.int .u32 0, Value.int .u32 0, Value.int .u32 0, Value.int .u32 0, Value.int .u32 0, Value.int .u32 0, .slice none 0 0, .bool false, .int .i64 0, .slice none 0 0] 30)).setCells W7.heap.size 0 ds = W8 := ⟨_, rfl⟩
       rw [hW8] at N8 T8
       simp only [hW8]
       have E8 := Lib.hid (E7.out.later T8.out)
       clear hW8))
  go_upto_region 6 with (first
    | (go_at_call 10; refine (aw_p2 W8 E8.out).mono ?_; rintro e W9 ⟨es, v9, rfl, b9⟩
       have E9 := Lib.hid (E8.out.later b9)
       have T9 := Lib.hid b9
       have XE := Lib.hid v9
       have T10 := Lib.hid (newBelow W9 es)
       have H10 := Lib.hid (newThere W9 v9.len)
       clear b9 v9)
    | (refine wpList_store_mid rfl 30 (.tmp 6) (.tmp 30) rfl W9.heap.size 0 es.toArray rfl rfl H10.out XE.out.infoA (all_oneCell_toArray XE.out.one) ?_
       simp only [List.toList_toArray]
       obtain ⟨W10, hW10⟩ : ∃ W10, (W9.alloc (.cells #[Value.int .u32 0, Value.int .u32 0, Value.int .u32 0, Value.int .u32 0, Value.int .u32 0, Value.int .u32 0, Value.int .u32 0, Value.int .u32 0, Value.int .u32 0, Value.int .u32 0, Value.int .u32 0, Value.int .u32 0, Value.int .u32 0, Value.int .u32 0, Value.int .u32 0, Value.int .u32 0, Value.int .u32 0, Value.int .u32 0, Value.int .u32 0, Value.int .u32 0, Value.int .u32 0, Value.int .u32 0, Value.int .u32 0, Value.int .u32 0, Value.int .u32 0, Value.int .u32 0, Value.int .u32 0, Value.int .u32 0, Value.int .u32 0, .slice none 0 0, .bool false, .int .i64 0, .slice none 0 0] 30)).setCells W9.heap.size 0 es = W10 := ⟨_, rfl⟩
       rw [hW10] at T10
       simp only [hW10]
       have E10 := Lib.hid (E9.out.later T10.out)
       clear hW10))
  go_upto_region 7 with (first
    | (go_at_call 8; refine (aw_fmtN W10 E10.out).mono ?_; rintro e W11 ⟨rfl, b11⟩
       have E11 := Lib.hid (E10.out.later b11)
       have T11 := Lib.hid b11
       clear b11))
  go_upto_region 8 with (first
    | (go_at_call 8; refine (aw_f2 W11 E11.out).mono ?_; rintro e W12 ⟨rfl, b12⟩
       have E12 := Lib.hid (E11.out.later b12)
       have U8 : Hid (Below W8.heap.size W8 W12) := Lib.hid (((T9.out.trans (T10.out.mono T9.out.size)).trans (T11.out.mono (Nat.le_trans T9.out.size T10.out.size))).trans (b12.mono (Nat.le_trans T9.out.size (Nat.le_trans T10.out.size T11.out.size))))
       have U7 : Hid (Below W7.heap.size W7 W12) := Lib.hid (T8.out.trans (U8.out.mono T8.out.size))
       have U5 : Hid (Below W5.heap.size W5 W12) := Lib.hid (T7.out.trans (U7.out.mono T7.out.size))
       have N12 := Lib.hid (N8.out.later U8.out)
       have R12 := Lib.hid (R5.out.later U5.out)
       have D12 := Lib.hid (XD.out.later U7.out)
       have C12 := Lib.hid (XV.out.later U5.out)
       clear b12))
  go_wp2_with (first
    | (refine wpList_load_midG rfl 30 (.tmp 4) rfl W7.heap.size 0 rfl ds _ N12.out.range Tryd.underlying30 rfl XD.out.info ?_)
    | (refine wpList_load_midG rfl 30 (.tmp 1) rfl (w.heap.size + 1 + 1) 0 rfl cs _ R12.out.range Tryd.underlying30 rfl XV.out.info ?_)
    | (go_at_call 12; refine (same_any ds cs awV awV W12 D12.out C12.out (by show 2 ≤ _; omega) (by show 1 ≤ _; omega)).mono ?_; rintro e W13 ⟨rfl, b13⟩
       have T13 := Lib.hid b13
       clear b13)
    | (go_at_call 15; refine (fall_any _ rfl W13).mono ?_; rintro e W14 ⟨rfl, b14⟩
       have T14 := Lib.hid b14
       clear b14))
  go_ret
  exact ⟨rfl, (XB5.out.trans (U5.out.mono XB5.out.size)).trans ((T13.out.trans (T14.out.mono T13.out.size)).mono (Nat.le_trans XB5.out.size U5.out.size))⟩
end Go.Proofs.YtnfkimhhgflfjaaDoor.Rep
