/- gaolerlaw28.ReportParseFormatted, walked where the first virtual CPU can be formatted. -/
import Derived.Test.YtnfkimhhgflfjaaDoorR26
namespace Go.Proofs.YtnfkimhhgflfjaaDoor.Rep
open Go Go.RowKit Go.Shelf
set_option linter.unusedVariables false
set_option linter.unusedSimpArgs false
/-! ### gaolerlaw28.ReportParseFormatted, walked where the first virtual CPU can be formatted -/
/-- What stands throughout the drawn region. -/
structure S7 (w : World) (cs ds : List Value) (u v : Vp) (xb : Nat) (xs : List Value) (X : Vp) (W : World) : Prop where
  rX : W.rangeAt xb 0 xs
  lx : xb < W.heap.size
  vX : VC W xs X
  l4 : L4 w cs ds u v W
theorem S7.later {w W W' : World} {cs ds : List Value} {u v : Vp} {xb : Nat} {xs : List Value} {X : Vp} (h : S7 w cs ds u v xb xs X W) (hb : Below W.heap.size W W') : S7 w cs ds u v xb xs X W' :=
  ⟨range_later h.rX h.lx hb, Nat.lt_of_lt_of_le h.lx hb.size, h.vX.later hb, h.l4.later hb⟩
theorem fmt_same {u v : Vp} (hu : u.wf) (hv : v.wf) (fu : fOk u = true) (fv : fOk v = true) : ((fmtS u).toList == (fmtS v).toList) = decide (bareV v = bareV u) := by
  unfold fmtS
  rw [if_pos fu, if_pos fv, ByteArray.toList_eq, ByteArray.toList_eq]
  show (textL u == textL v) = _
  have h := text_inj hu hv fu fv
  by_cases e : textL u = textL v
  · rw [decide_eq_true (h.1 e).symm, beq_iff_eq]; exact e
  · rw [decide_eq_false (fun g => e (h.2 g.symm)), beq_eq_false_iff_ne]; exact e
set_option maxRecDepth 100000 in
set_option maxHeartbeats 8000000 in
theorem law4_good (cs ds : List Value) (u v : Vp) (l : List UInt8) (w : World) (hE : Env w) (hu : VC w cs u) (hv : VC w ds v) (f1 : fewV u = true) (f2 : fewV v = true) (hl : l.length ≤ 2000) (hf : fOk u = true) :
    Calls Tryd.prog 4 #[.agg cs.toArray, .agg ds.toArray, .string ⟨l.toArray⟩] w fun e w' => e = .returned (.bool true) ∧ Below w.heap.size w w' := by
  obtain ⟨Y, g, T, hor, hp3, hf3⟩ := last_parts l hl
  obtain ⟨S, hS⟩ : ∃ S : ByteArray, ⟨l.toArray⟩ = S := ⟨_, rfl⟩
  have hsz : S.size = l.length := by rw [← hS]; exact List.size_toArray
  rw [hS] at hor hp3 ⊢
  have P3 := Lib.hid hp3
  have F3 := Lib.hid hf3
  obtain ⟨W1, hW1⟩ : ∃ W1, (w.alloc (.cells cs.toArray 30)).alloc (.cells ds.toArray 30) = W1 := ⟨_, rfl⟩
  have X1 := Lib.hid hW1
  have A1 := Lib.hid (l4_start w hE cs ds u v hu hv hW1)
  have G1 : Hid (∀ W, VC W cs u → Calls Tryd.prog 7 #[.agg cs.toArray] W fun e w' => e = .returned (.bool true) ∧ Below W.heap.size W w') := Lib.hid (fun W h => by have := few_any cs u W h; rw [f1] at this; exact this)
  have G2 : Hid (∀ W, VC W ds v → Calls Tryd.prog 7 #[.agg ds.toArray] W fun e w' => e = .returned (.bool true) ∧ Below W.heap.size W w') := Lib.hid (fun W h => by have := few_any ds v W h; rw [f2] at this; exact this)
  have q1 : decide ((2000 : Int) < (S.size : Int)) = false := decide_eq_false (by omega)
  have q0 : ¬ (2000 : Int) < (S.size : Int) := by omega
  have M1 : Hid (∀ W, Env W → VC W cs u → Calls Tryd.prog 8 #[.agg cs.toArray] W fun e w' => e = .returned (.tuple #[.string (fmtS u), .int .i64 0]) ∧ Below W.heap.size W w') := Lib.hid (fun W hE h => by
    have := format_any cs u W hE h (few_len f1).1 (few_len f1).2
    unfold fmtE at this
    rw [if_pos hf] at this
    exact this)
  have M2 : Hid (∀ W, Env W → VC W ds v → Calls Tryd.prog 8 #[.agg ds.toArray] W fun e w' => e = .returned (.tuple #[.string (fmtS v), .int .i64 (fmtE v)]) ∧ Below W.heap.size W w') := Lib.hid (fun W hE h => format_any ds v W hE h (few_len f2).1 (few_len f2).2)
  have P6 : Hid (∀ W, Env W → Calls Tryd.prog 10 #[.string (fmtS u)] W fun e w' => ∃ xs, VC w' xs (bareV u) ∧ e = .returned (.tuple #[.agg xs.toArray, .int .i64 0]) ∧ Below W.heap.size W w') := Lib.hid (fun W hE => by
    have h := parse_any (textL u) (text_len hf hu.wf f1) W hE
    rw [read_text hu.wf hf, ok_text hu.wf hf] at h
    unfold fmtS
    rw [if_pos hf]
    exact h.mono fun e w' ⟨hb, ds, hv, he⟩ => ⟨ds, hv, he, hb⟩)
  have BL := Lib.hid (few_len f1)
  have BL2 := Lib.hid (few_len f2)
  have hE2 : (fmtE v = 0 ∧ ∃ qb, ((fmtS u).toList == (fmtS v).toList) = qb ∧ decide (bareV v = bareV u) = qb) ∨ fmtE v = 1 := by
    cases hv2 : fOk v with
    | true => exact .inl ⟨by unfold fmtE; rw [if_pos hv2], _, fmt_same hu.wf hv.wf hf hv2, rfl⟩
    | false => exact .inr (by unfold fmtE; rw [if_neg (by rw [hv2]; decide)])
  obtain ⟨a1, ha1⟩ : ∃ a, fmtS u = a := ⟨_, rfl⟩
  obtain ⟨a2, ha2⟩ : ∃ a, fmtS v = a := ⟨_, rfl⟩
  obtain ⟨e2, he2⟩ : ∃ a, fmtE v = a := ⟨_, rfl⟩
  rw [ha1] at M1 P6 hE2
  rw [ha2, he2] at M2
  rw [ha2, he2] at hE2
  clear hW1 hS hE hu hv f1 f2 hf hp3 hf3 ha1 ha2 he2 hsz hl
  go_enter Tryd.func4, Tryd.ntmps4
  go_upto_region 1 with (fail)
  simp only [X1.out]
  go_upto_region 3 with (first
    | (go_at_call 6; with_reducible refine (awake_any W1 A1.out.env).mono ?_; rintro e W2 ⟨rfl, b2⟩; have A2 := Lib.hid (A1.out.later b2); clear b2)
    | (refine wpList_load_midG rfl 30 (.tmp 3) rfl w.heap.size 0 rfl cs _ A2.out.rA Tryd.underlying30 rfl A2.out.vA.info ?_)
    | (go_at_call 7; with_reducible refine (G1.out W2 A2.out.vA).mono ?_; rintro e W3 ⟨rfl, b3⟩; have A3 := Lib.hid (A2.out.later b3); clear b3)
    | (refine wpList_load_midG rfl 30 (.tmp 4) rfl (w.heap.size + 1) 0 rfl ds _ A3.out.rB Tryd.underlying30 rfl A3.out.vB.info ?_)
    | (go_at_call 7; with_reducible refine (G2.out W3 A3.out.vB).mono ?_; rintro e W4 ⟨rfl, b4⟩; have A4 := Lib.hid (A3.out.later b4); clear b4))
  go_upto_region 4 with (first
    | (refine wpList_load_mid rfl 30 (.tmp 3) rfl w.heap.size 0 rfl cs _ A4.out.rA Tryd.underlying30 rfl A4.out.vA.info ?_)
    | (go_at_call 8; with_reducible refine (M1.out W4 A4.out.env A4.out.vA).mono ?_; rintro e W5 ⟨rfl, b5⟩; have A5 := Lib.hid (A4.out.later b5); clear b5))
  rcases hE2 with ⟨rfl, qb, hq1, hq2⟩ | rfl
  case inl =>
    have HQ2 := Lib.hid hq2
    clear hq2
    go_upto_region 6 with (first
      | (refine wpList_load_mid rfl 30 (.tmp 4) rfl (w.heap.size + 1) 0 rfl ds _ A5.out.rB Tryd.underlying30 rfl A5.out.vB.info ?_)
      | (go_at_call 8; with_reducible refine (M2.out W5 A5.out.env A5.out.vB).mono ?_; rintro e W6 ⟨rfl, b6⟩; have A6 := Lib.hid (A5.out.later b6); clear b6))
    go_upto_region 7 with (first
      | (go_at_call 10; with_reducible refine (P6.out W6 A6.out.env).mono ?_; rintro e W7 ⟨xs, vx, rfl, b7⟩
         have A7 := Lib.hid (A6.out.later b7)
         have XX := Lib.hid vx
         have NX := Lib.hid (newBox W7 vx.len)
         have TX := Lib.hid (newBelow W7 xs)
         have HX := Lib.hid (newThere W7 vx.len)
         clear b7 vx)
      | (refine wpList_store_mid rfl 30 (.tmp 11) (.tmp 50) rfl W7.heap.size 0 xs.toArray rfl rfl HX.out XX.out.infoA (all_oneCell_toArray XX.out.one) ?_
         simp only [List.toList_toArray]
         obtain ⟨W8, hW8⟩ : ∃ W8, (W7.alloc (.cells #[Value.int .u32 0, Value.int .u32 0, Value.int .u32 0, Value.int .u32 0, Value.int .u32 0, Value.int .u32 0, Value.int .u32 0, Value.int .u32 0, Value.int .u32 0, Value.int .u32 0, Value.int .u32 0, Value.int .u32 0, Value.int .u32 0, Value.int .u32 0, Value.int .u32 0, Value.int .u32 0, Value.int .u32 0, Value.int .u32 0, Value.int .u32 0, Value.int .u32 0, Value.int .u32 0, Value.int .u32 0, Value.int .u32 0, Value.int .u32 0, Value.int .u32 0, Value.int .u32 0, Value.int .u32 0, Value.int .u32 0, Value.int .u32 0, .slice none 0 0, .bool false, .int .i64 0, .slice none 0 0] 30)).setCells W7.heap.size 0 xs = W8 := ⟨_, rfl⟩
         rw [hW8] at NX TX
         simp only [hW8]
         have S1 := Lib.hid (S7.mk NX.out.range NX.out.lt (XX.out.later TX.out) (A7.out.later TX.out))
         clear hW8 NX TX HX))
    have S2 : Hid (S7 w cs ds u v W7.heap.size xs (bareV u) W8.drew) := Lib.hid (S1.out.later (Below.refl _ _).drew)
    refine wp_region_held_drew (S := fun W' => Hid (S7 w cs ds u v W7.heap.size xs (bareV u) W')) (by kernel_rfl) S2 (fun hS => ?_)
    refine wpAnyH_take (i := 0) (v := (.int .i64 0)) rfl (by kernel_rfl) (by kernel_rfl) (by kernel_rfl) (fun _ _ _ h => h) (Or.inl ⟨by rfl, by intro w hSw; (try dsimp only at hSw); simp only [List.getElem_toArray, List.getElem_cons_zero, List.getElem_cons_succ]; go_simp⟩) (by assumption) ?_
    simp only [Act.put, List.getElem_toArray, List.getElem_cons_zero, List.getElem_cons_succ, List.setIfInBounds_toArray, List.set_cons_zero, List.set_cons_succ]
    refine wpAnyH_take (i := 1) (v := (.bool false)) rfl (by kernel_rfl) (by kernel_rfl) (by kernel_rfl) (fun _ _ _ h => h) (Or.inl ⟨by rfl, by intro w hSw; (try dsimp only at hSw); simp only [List.getElem_toArray, List.getElem_cons_zero, List.getElem_cons_succ]; go_simp⟩) (by assumption) ?_
    simp only [Act.put, List.getElem_toArray, List.getElem_cons_zero, List.getElem_cons_succ, List.setIfInBounds_toArray, List.set_cons_zero, List.set_cons_succ]
    refine wpAnyH_take (i := 2) (v := (.bool false)) rfl (by kernel_rfl) (by kernel_rfl) (by kernel_rfl) (fun _ _ _ h => h) (Or.inl ⟨by rfl, by intro w hSw; (try dsimp only at hSw); simp only [List.getElem_toArray, List.getElem_cons_zero, List.getElem_cons_succ]; go_simp⟩) (by assumption) ?_
    simp only [Act.put, List.getElem_toArray, List.getElem_cons_zero, List.getElem_cons_succ, List.setIfInBounds_toArray, List.set_cons_zero, List.set_cons_succ]
    refine wpAnyH_take (i := 3) (v := .agg xs.toArray) rfl (by kernel_rfl) (by kernel_rfl) (by kernel_rfl) (fun _ _ _ h => h) (yieldsIf_load_mid (by rfl) 30 (.tmp 11) rfl W7.heap.size 0 rfl xs _ (fun w hSw => hSw.out.rX) Tryd.underlying30 rfl XX.out.info) (by assumption) ?_
    simp only [Act.put, List.getElem_toArray, List.getElem_cons_zero, List.getElem_cons_succ, List.setIfInBounds_toArray, List.set_cons_zero, List.set_cons_succ]
    refine wpAnyH_take (i := 4) (v := .agg cs.toArray) rfl (by kernel_rfl) (by kernel_rfl) (by kernel_rfl) (fun _ _ _ h => h) (yieldsIf_load_mid (by rfl) 30 (.tmp 3) rfl w.heap.size 0 rfl cs _ (fun w hSw => hSw.out.l4.rA) Tryd.underlying30 rfl A6.out.vA.info) (by assumption) ?_
    simp only [Act.put, List.getElem_toArray, List.getElem_cons_zero, List.getElem_cons_succ, List.setIfInBounds_toArray, List.set_cons_zero, List.set_cons_succ]
    refine wpAnyH_ready (rs := [5]) (by kernel_rfl) (by simp) ?_
    refine AllReadyH.cons rfl (fun K hK => ?_) AllReadyH.nil
    rw [if_pos (by rfl)]
    simp only [List.getElem_toArray, List.getElem_cons_zero, List.getElem_cons_succ]
    go_simp
    refine (bare_any cs u _ S2.out.l4.vA).mono ?_
    rintro e WA ⟨⟨bs, hbv, rfl⟩, b9⟩
    have S2' := Lib.hid (S2.out.later b9)
    refine hK.out _ _ S2' (fun hS2 => ?_)
    clear hK K
    refine wpAnyH_ready (rs := [6]) (by kernel_rfl) (by simp) ?_
    refine AllReadyH.cons rfl (fun K hK => ?_) AllReadyH.nil
    rw [if_pos (by rfl)]
    simp only [List.getElem_toArray, List.getElem_cons_zero, List.getElem_cons_succ]
    go_simp
    refine (same_any xs bs (bareV u) (bareV u) _ S2'.out.vX hbv BL.out.1 BL.out.2).mono ?_
    rintro e WB ⟨rfl, b10⟩
    rw [decide_eq_true (rfl : bareV u = bareV u)]
    have S3 := Lib.hid (S2'.out.later b10)
    refine hK.out _ _ S3 (fun hS3 => ?_)
    clear hK K
    refine wpAnyH_take (i := 7) (v := (.bool false)) rfl (by kernel_rfl) (by kernel_rfl) (by kernel_rfl) (fun _ _ _ h => h) (Or.inl ⟨by rfl, by intro w hSw; (try dsimp only at hSw); simp only [List.getElem_toArray, List.getElem_cons_zero, List.getElem_cons_succ]; go_simp⟩) (by assumption) ?_
    simp only [Act.put, List.getElem_toArray, List.getElem_cons_zero, List.getElem_cons_succ, List.setIfInBounds_toArray, List.set_cons_zero, List.set_cons_succ]
    refine wpAnyH_take (i := 8) (v := (.bool false)) rfl (by kernel_rfl) (by kernel_rfl) (by kernel_rfl) (fun _ _ _ h => h) (Or.inl ⟨by rfl, by intro w hSw; (try dsimp only at hSw); simp only [List.getElem_toArray, List.getElem_cons_zero, List.getElem_cons_succ]; go_simp⟩) (by assumption) ?_
    simp only [Act.put, List.getElem_toArray, List.getElem_cons_zero, List.getElem_cons_succ, List.setIfInBounds_toArray, List.set_cons_zero, List.set_cons_succ]
    refine wpAnyH_take (i := 9) (v := (.bool false)) rfl (by kernel_rfl) (by kernel_rfl) (by kernel_rfl) (fun _ _ _ h => h) (Or.inl ⟨by rfl, by intro w hSw; (try dsimp only at hSw); simp only [List.getElem_toArray, List.getElem_cons_zero, List.getElem_cons_succ]; go_simp⟩) (by assumption) ?_
    simp only [Act.put, List.getElem_toArray, List.getElem_cons_zero, List.getElem_cons_succ, List.setIfInBounds_toArray, List.set_cons_zero, List.set_cons_succ]
    refine wpAnyH_take (i := 10) (v := (.int .i64 0)) rfl (by kernel_rfl) (by kernel_rfl) (by kernel_rfl) (fun _ _ _ h => h) (Or.inl ⟨by rfl, by intro w hSw; (try dsimp only at hSw); simp only [List.getElem_toArray, List.getElem_cons_zero, List.getElem_cons_succ]; go_simp⟩) (by assumption) ?_
    simp only [Act.put, List.getElem_toArray, List.getElem_cons_zero, List.getElem_cons_succ, List.setIfInBounds_toArray, List.set_cons_zero, List.set_cons_succ]
    refine wpAnyH_take (i := 11) (v := (.bool true)) rfl (by kernel_rfl) (by kernel_rfl) (by kernel_rfl) (fun _ _ _ h => h) (Or.inl ⟨by rfl, by intro w hSw; (try dsimp only at hSw); simp only [List.getElem_toArray, List.getElem_cons_zero, List.getElem_cons_succ]; go_simp⟩) (by assumption) ?_
    simp only [Act.put, List.getElem_toArray, List.getElem_cons_zero, List.getElem_cons_succ, List.setIfInBounds_toArray, List.set_cons_zero, List.set_cons_succ]
    refine wpAnyH_take (i := 12) (v := (.bool true)) rfl (by kernel_rfl) (by kernel_rfl) (by kernel_rfl) (fun _ _ _ h => h) (Or.inl ⟨by rfl, by intro w hSw; (try dsimp only at hSw); simp only [List.getElem_toArray, List.getElem_cons_zero, List.getElem_cons_succ]; go_simp⟩) (by assumption) ?_
    simp only [Act.put, List.getElem_toArray, List.getElem_cons_zero, List.getElem_cons_succ, List.setIfInBounds_toArray, List.set_cons_zero, List.set_cons_succ]
    refine wpAnyH_take (i := 13) (v := (.string a1)) rfl (by kernel_rfl) (by kernel_rfl) (by kernel_rfl) (fun _ _ _ h => h) (Or.inl ⟨by rfl, by intro w hSw; (try dsimp only at hSw); simp only [List.getElem_toArray, List.getElem_cons_zero, List.getElem_cons_succ]; go_simp⟩) (by assumption) ?_
    simp only [Act.put, List.getElem_toArray, List.getElem_cons_zero, List.getElem_cons_succ, List.setIfInBounds_toArray, List.set_cons_zero, List.set_cons_succ]
    refine wpAnyH_take (i := 14) (v := (.string a2)) rfl (by kernel_rfl) (by kernel_rfl) (by kernel_rfl) (fun _ _ _ h => h) (Or.inl ⟨by rfl, by intro w hSw; (try dsimp only at hSw); simp only [List.getElem_toArray, List.getElem_cons_zero, List.getElem_cons_succ]; go_simp⟩) (by assumption) ?_
    simp only [Act.put, List.getElem_toArray, List.getElem_cons_zero, List.getElem_cons_succ, List.setIfInBounds_toArray, List.set_cons_zero, List.set_cons_succ]
    refine wpAnyH_take (i := 15) (v := (.bool qb)) rfl (by kernel_rfl) (by kernel_rfl) (by kernel_rfl) (fun _ _ _ h => h) (Or.inl ⟨by rfl, by intro w hSw; (try dsimp only at hSw); simp only [List.getElem_toArray, List.getElem_cons_zero, List.getElem_cons_succ]; go_simp⟩) (by assumption) ?_
    simp only [Act.put, List.getElem_toArray, List.getElem_cons_zero, List.getElem_cons_succ, List.setIfInBounds_toArray, List.set_cons_zero, List.set_cons_succ]
    refine wpAnyH_take (i := 16) (v := .agg ds.toArray) rfl (by kernel_rfl) (by kernel_rfl) (by kernel_rfl) (fun _ _ _ h => h) (yieldsIf_load_mid (by rfl) 30 (.tmp 4) rfl (w.heap.size + 1) 0 rfl ds _ (fun w hSw => hSw.out.l4.rB) Tryd.underlying30 rfl A6.out.vB.info) (by assumption) ?_
    simp only [Act.put, List.getElem_toArray, List.getElem_cons_zero, List.getElem_cons_succ, List.setIfInBounds_toArray, List.set_cons_zero, List.set_cons_succ]
    refine wpAnyH_take (i := 18) (v := .agg cs.toArray) rfl (by kernel_rfl) (by kernel_rfl) (by kernel_rfl) (fun _ _ _ h => h) (yieldsIf_load_mid (by rfl) 30 (.tmp 3) rfl w.heap.size 0 rfl cs _ (fun w hSw => hSw.out.l4.rA) Tryd.underlying30 rfl A6.out.vA.info) (by assumption) ?_
    simp only [Act.put, List.getElem_toArray, List.getElem_cons_zero, List.getElem_cons_succ, List.setIfInBounds_toArray, List.set_cons_zero, List.set_cons_succ]
    refine wpAnyH_ready (rs := [17]) (by kernel_rfl) (by simp) ?_
    refine AllReadyH.cons rfl (fun K hK => ?_) AllReadyH.nil
    rw [if_pos (by rfl)]
    simp only [List.getElem_toArray, List.getElem_cons_zero, List.getElem_cons_succ]
    go_simp
    refine (bare_any ds v _ S3.out.l4.vB).mono ?_
    rintro e WC ⟨⟨gs, hgv, rfl⟩, b11⟩
    have S4 := Lib.hid (S3.out.later b11)
    refine hK.out _ _ S4 (fun hS4 => ?_)
    clear hK K
    refine wpAnyH_ready (rs := [19]) (by kernel_rfl) (by simp) ?_
    refine AllReadyH.cons rfl (fun K hK => ?_) AllReadyH.nil
    rw [if_pos (by rfl)]
    simp only [List.getElem_toArray, List.getElem_cons_zero, List.getElem_cons_succ]
    go_simp
    refine (bare_any cs u _ S4.out.l4.vA).mono ?_
    rintro e WD ⟨⟨hs, hhv, rfl⟩, b12⟩
    have S5 := Lib.hid (S4.out.later b12)
    refine hK.out _ _ S5 (fun hS5 => ?_)
    clear hK K
    refine wpAnyH_ready (rs := [20]) (by kernel_rfl) (by simp) ?_
    refine AllReadyH.cons rfl (fun K hK => ?_) AllReadyH.nil
    rw [if_pos (by rfl)]
    simp only [List.getElem_toArray, List.getElem_cons_zero, List.getElem_cons_succ]
    go_simp
    refine (same_any gs hs (bareV v) (bareV u) _ (hgv.later b12) hhv BL2.out.1 BL2.out.2).mono ?_
    rintro e WE ⟨rfl, b13⟩
    rw [HQ2.out]
    have S6 := Lib.hid (S5.out.later b13)
    refine hK.out _ _ S6 (fun hS6 => ?_)
    clear hK K
    refine wpAnyH_take (i := 21) (v := (.bool false)) rfl (by kernel_rfl) (by kernel_rfl) (by kernel_rfl) (fun _ _ _ h => h) (Or.inl ⟨by rfl, by intro w hSw; (try dsimp only at hSw); simp only [List.getElem_toArray, List.getElem_cons_zero, List.getElem_cons_succ]; go_simp⟩) (by assumption) ?_
    simp only [Act.put, List.getElem_toArray, List.getElem_cons_zero, List.getElem_cons_succ, List.setIfInBounds_toArray, List.set_cons_zero, List.set_cons_succ]
    refine wpAnyH_take (i := 22) (v := (.bool false)) rfl (by kernel_rfl) (by kernel_rfl) (by kernel_rfl) (fun _ _ _ h => h) (Or.inl ⟨by rfl, by intro w hSw; (try dsimp only at hSw); simp only [List.getElem_toArray, List.getElem_cons_zero, List.getElem_cons_succ]; go_simp⟩) (by assumption) ?_
    simp only [Act.put, List.getElem_toArray, List.getElem_cons_zero, List.getElem_cons_succ, List.setIfInBounds_toArray, List.set_cons_zero, List.set_cons_succ]
    refine wpAnyH_take (i := 23) (v := (.bool false)) rfl (by kernel_rfl) (by kernel_rfl) (by kernel_rfl) (fun _ _ _ h => h) (Or.inl ⟨by rfl, by intro w hSw; (try dsimp only at hSw); simp only [List.getElem_toArray, List.getElem_cons_zero, List.getElem_cons_succ]; go_simp⟩) (by assumption) ?_
    simp only [Act.put, List.getElem_toArray, List.getElem_cons_zero, List.getElem_cons_succ, List.setIfInBounds_toArray, List.set_cons_zero, List.set_cons_succ]
    refine wpAnyH_done (by kernel_rfl) ?_ _
    have A9 := Lib.hid S6.out.l4
    clear S1 S2 S3 S4 S5 S6 hS4 hS5 hS6
    go_upto_region 9 with (fail)
    rcases hor with ⟨rfl, rfl⟩ | ⟨rfl, rfl⟩
    case inl =>
      go_upto_region 10 with (first
        | (go_at_call 10; with_reducible refine (P3.out WE A9.out.env).mono ?_; rintro e WP ⟨ys, vy, rfl, bp⟩
           have AP := Lib.hid (A9.out.later bp)
           have XY := Lib.hid vy
           have NP := Lib.hid (newBox WP vy.len)
           have TP := Lib.hid (newBelow WP ys)
           have HP := Lib.hid (newThere WP vy.len)
           clear bp vy)
        | (refine wpList_store_mid rfl 30 (.tmp 13) (.tmp 79) rfl WP.heap.size 0 ys.toArray rfl rfl HP.out XY.out.infoA (all_oneCell_toArray XY.out.one) ?_
           simp only [List.toList_toArray]
           obtain ⟨WQ, hWQ⟩ : ∃ WQ, (WP.alloc (.cells #[Value.int .u32 0, Value.int .u32 0, Value.int .u32 0, Value.int .u32 0, Value.int .u32 0, Value.int .u32 0, Value.int .u32 0, Value.int .u32 0, Value.int .u32 0, Value.int .u32 0, Value.int .u32 0, Value.int .u32 0, Value.int .u32 0, Value.int .u32 0, Value.int .u32 0, Value.int .u32 0, Value.int .u32 0, Value.int .u32 0, Value.int .u32 0, Value.int .u32 0, Value.int .u32 0, Value.int .u32 0, Value.int .u32 0, Value.int .u32 0, Value.int .u32 0, Value.int .u32 0, Value.int .u32 0, Value.int .u32 0, Value.int .u32 0, .slice none 0 0, .bool false, .int .i64 0, .slice none 0 0] 30)).setCells WP.heap.size 0 ys = WQ := ⟨_, rfl⟩
           rw [hWQ] at NP TP
           simp only [hWQ]
           have AQ := Lib.hid (AP.out.later TP.out)
           have VQ := Lib.hid (XY.out.later TP.out)
           clear hWQ))
      go_upto_region 11 with (first
        | (refine wpList_load_mid rfl 30 (.tmp 13) rfl WP.heap.size 0 rfl ys _ NP.out.range Tryd.underlying30 rfl XY.out.info ?_)
        | (go_at_call 8; with_reducible refine (F3.out WQ ys AQ.out.env VQ.out).mono ?_; rintro e WR ⟨rfl, br⟩
           have AR := Lib.hid (AQ.out.later br)
           have NR := Lib.hid (NP.out.later br)
           have VR := Lib.hid (VQ.out.later br)
           clear br))
      have r1 : (T.toList == T.toList) = true := beq_self_eq_true _
      go_wp2
      go_ret
      exact ⟨rfl, AR.out.below⟩
    case inr =>
      go_upto_region 10 with (first
        | (go_at_call 10; with_reducible refine (P3.out WE A9.out.env).mono ?_; rintro e WP ⟨ys, vy, rfl, bp⟩
           have AP := Lib.hid (A9.out.later bp)
           have XY := Lib.hid vy
           have NP := Lib.hid (newBox WP vy.len)
           have TP := Lib.hid (newBelow WP ys)
           have HP := Lib.hid (newThere WP vy.len)
           clear bp vy)
        | (refine wpList_store_mid rfl 30 (.tmp 13) (.tmp 79) rfl WP.heap.size 0 ys.toArray rfl rfl HP.out XY.out.infoA (all_oneCell_toArray XY.out.one) ?_
           simp only [List.toList_toArray]
           obtain ⟨WQ, hWQ⟩ : ∃ WQ, (WP.alloc (.cells #[Value.int .u32 0, Value.int .u32 0, Value.int .u32 0, Value.int .u32 0, Value.int .u32 0, Value.int .u32 0, Value.int .u32 0, Value.int .u32 0, Value.int .u32 0, Value.int .u32 0, Value.int .u32 0, Value.int .u32 0, Value.int .u32 0, Value.int .u32 0, Value.int .u32 0, Value.int .u32 0, Value.int .u32 0, Value.int .u32 0, Value.int .u32 0, Value.int .u32 0, Value.int .u32 0, Value.int .u32 0, Value.int .u32 0, Value.int .u32 0, Value.int .u32 0, Value.int .u32 0, Value.int .u32 0, Value.int .u32 0, Value.int .u32 0, .slice none 0 0, .bool false, .int .i64 0, .slice none 0 0] 30)).setCells WP.heap.size 0 ys = WQ := ⟨_, rfl⟩
           rw [hWQ] at NP TP
           simp only [hWQ]
           have AQ := Lib.hid (AP.out.later TP.out)
           have VQ := Lib.hid (XY.out.later TP.out)
           clear hWQ))
      go_upto_region 11 with (first
        | (refine wpList_load_mid rfl 30 (.tmp 13) rfl WP.heap.size 0 rfl ys _ NP.out.range Tryd.underlying30 rfl XY.out.info ?_)
        | (go_at_call 8; with_reducible refine (F3.out WQ ys AQ.out.env VQ.out).mono ?_; rintro e WR ⟨rfl, br⟩
           have AR := Lib.hid (AQ.out.later br)
           have NR := Lib.hid (NP.out.later br)
           have VR := Lib.hid (VQ.out.later br)
           clear br))
      go_wp2_with (first
        | (refine wpList_load_midG rfl 30 (.tmp 13) rfl WP.heap.size 0 rfl ys _ NR.out.range Tryd.underlying30 rfl XY.out.info ?_)
        | (go_at_call 12; refine (same_any ys (vcs zeroV none 0 none 0) zeroV zeroV WR VR.out (vc_lit WR zeroV_wf rfl rfl) (Nat.zero_le _) (Nat.zero_le _)).mono ?_; rintro e WS ⟨rfl, bs⟩; have AS := Lib.hid (AR.out.later bs); clear bs))
      go_ret
      exact ⟨rfl, AS.out.below⟩
  case inr =>
    go_upto_region 6 with (first
      | (refine wpList_load_mid rfl 30 (.tmp 4) rfl (w.heap.size + 1) 0 rfl ds _ A5.out.rB Tryd.underlying30 rfl A5.out.vB.info ?_)
      | (go_at_call 8; with_reducible refine (M2.out W5 A5.out.env A5.out.vB).mono ?_; rintro e W6 ⟨rfl, b6⟩; have A6 := Lib.hid (A5.out.later b6); clear b6))
    go_upto_region 7 with (first
      | (go_at_call 10; with_reducible refine (P6.out W6 A6.out.env).mono ?_; rintro e W7 ⟨xs, vx, rfl, b7⟩
         have A7 := Lib.hid (A6.out.later b7)
         have XX := Lib.hid vx
         have NX := Lib.hid (newBox W7 vx.len)
         have TX := Lib.hid (newBelow W7 xs)
         have HX := Lib.hid (newThere W7 vx.len)
         clear b7 vx)
      | (refine wpList_store_mid rfl 30 (.tmp 11) (.tmp 50) rfl W7.heap.size 0 xs.toArray rfl rfl HX.out XX.out.infoA (all_oneCell_toArray XX.out.one) ?_
         simp only [List.toList_toArray]
         obtain ⟨W8, hW8⟩ : ∃ W8, (W7.alloc (.cells #[Value.int .u32 0, Value.int .u32 0, Value.int .u32 0, Value.int .u32 0, Value.int .u32 0, Value.int .u32 0, Value.int .u32 0, Value.int .u32 0, Value.int .u32 0, Value.int .u32 0, Value.int .u32 0, Value.int .u32 0, Value.int .u32 0, Value.int .u32 0, Value.int .u32 0, Value.int .u32 0, Value.int .u32 0, Value.int .u32 0, Value.int .u32 0, Value.int .u32 0, Value.int .u32 0, Value.int .u32 0, Value.int .u32 0, Value.int .u32 0, Value.int .u32 0, Value.int .u32 0, Value.int .u32 0, Value.int .u32 0, Value.int .u32 0, .slice none 0 0, .bool false, .int .i64 0, .slice none 0 0] 30)).setCells W7.heap.size 0 xs = W8 := ⟨_, rfl⟩
         rw [hW8] at NX TX
         simp only [hW8]
         have S1 := Lib.hid (S7.mk NX.out.range NX.out.lt (XX.out.later TX.out) (A7.out.later TX.out))
         clear hW8 NX TX HX))
    have S2 : Hid (S7 w cs ds u v W7.heap.size xs (bareV u) W8.drew) := Lib.hid (S1.out.later (Below.refl _ _).drew)
    refine wp_region_held_drew (S := fun W' => Hid (S7 w cs ds u v W7.heap.size xs (bareV u) W')) (by kernel_rfl) S2 (fun hS => ?_)
    refine wpAnyH_take (i := 0) (v := (.int .i64 0)) rfl (by kernel_rfl) (by kernel_rfl) (by kernel_rfl) (fun _ _ _ h => h) (Or.inl ⟨by rfl, by intro w hSw; (try dsimp only at hSw); simp only [List.getElem_toArray, List.getElem_cons_zero, List.getElem_cons_succ]; go_simp⟩) (by assumption) ?_
    simp only [Act.put, List.getElem_toArray, List.getElem_cons_zero, List.getElem_cons_succ, List.setIfInBounds_toArray, List.set_cons_zero, List.set_cons_succ]
    refine wpAnyH_take (i := 1) (v := (.bool false)) rfl (by kernel_rfl) (by kernel_rfl) (by kernel_rfl) (fun _ _ _ h => h) (Or.inl ⟨by rfl, by intro w hSw; (try dsimp only at hSw); simp only [List.getElem_toArray, List.getElem_cons_zero, List.getElem_cons_succ]; go_simp⟩) (by assumption) ?_
    simp only [Act.put, List.getElem_toArray, List.getElem_cons_zero, List.getElem_cons_succ, List.setIfInBounds_toArray, List.set_cons_zero, List.set_cons_succ]
    refine wpAnyH_take (i := 2) (v := (.bool false)) rfl (by kernel_rfl) (by kernel_rfl) (by kernel_rfl) (fun _ _ _ h => h) (Or.inl ⟨by rfl, by intro w hSw; (try dsimp only at hSw); simp only [List.getElem_toArray, List.getElem_cons_zero, List.getElem_cons_succ]; go_simp⟩) (by assumption) ?_
    simp only [Act.put, List.getElem_toArray, List.getElem_cons_zero, List.getElem_cons_succ, List.setIfInBounds_toArray, List.set_cons_zero, List.set_cons_succ]
    refine wpAnyH_take (i := 3) (v := .agg xs.toArray) rfl (by kernel_rfl) (by kernel_rfl) (by kernel_rfl) (fun _ _ _ h => h) (yieldsIf_load_mid (by rfl) 30 (.tmp 11) rfl W7.heap.size 0 rfl xs _ (fun w hSw => hSw.out.rX) Tryd.underlying30 rfl XX.out.info) (by assumption) ?_
    simp only [Act.put, List.getElem_toArray, List.getElem_cons_zero, List.getElem_cons_succ, List.setIfInBounds_toArray, List.set_cons_zero, List.set_cons_succ]
    refine wpAnyH_take (i := 4) (v := .agg cs.toArray) rfl (by kernel_rfl) (by kernel_rfl) (by kernel_rfl) (fun _ _ _ h => h) (yieldsIf_load_mid (by rfl) 30 (.tmp 3) rfl w.heap.size 0 rfl cs _ (fun w hSw => hSw.out.l4.rA) Tryd.underlying30 rfl A6.out.vA.info) (by assumption) ?_
    simp only [Act.put, List.getElem_toArray, List.getElem_cons_zero, List.getElem_cons_succ, List.setIfInBounds_toArray, List.set_cons_zero, List.set_cons_succ]
    refine wpAnyH_ready (rs := [5]) (by kernel_rfl) (by simp) ?_
    refine AllReadyH.cons rfl (fun K hK => ?_) AllReadyH.nil
    rw [if_pos (by rfl)]
    simp only [List.getElem_toArray, List.getElem_cons_zero, List.getElem_cons_succ]
    go_simp
    refine (bare_any cs u _ S2.out.l4.vA).mono ?_
    rintro e WA ⟨⟨bs, hbv, rfl⟩, b9⟩
    have S2' := Lib.hid (S2.out.later b9)
    refine hK.out _ _ S2' (fun hS2 => ?_)
    clear hK K
    refine wpAnyH_ready (rs := [6]) (by kernel_rfl) (by simp) ?_
    refine AllReadyH.cons rfl (fun K hK => ?_) AllReadyH.nil
    rw [if_pos (by rfl)]
    simp only [List.getElem_toArray, List.getElem_cons_zero, List.getElem_cons_succ]
    go_simp
    refine (same_any xs bs (bareV u) (bareV u) _ S2'.out.vX hbv BL.out.1 BL.out.2).mono ?_
    rintro e WB ⟨rfl, b10⟩
    rw [decide_eq_true (rfl : bareV u = bareV u)]
    have S3 := Lib.hid (S2'.out.later b10)
    refine hK.out _ _ S3 (fun hS3 => ?_)
    clear hK K
    refine wpAnyH_take (i := 7) (v := (.bool false)) rfl (by kernel_rfl) (by kernel_rfl) (by kernel_rfl) (fun _ _ _ h => h) (Or.inl ⟨by rfl, by intro w hSw; (try dsimp only at hSw); simp only [List.getElem_toArray, List.getElem_cons_zero, List.getElem_cons_succ]; go_simp⟩) (by assumption) ?_
    simp only [Act.put, List.getElem_toArray, List.getElem_cons_zero, List.getElem_cons_succ, List.setIfInBounds_toArray, List.set_cons_zero, List.set_cons_succ]
    refine wpAnyH_take (i := 8) (v := (.bool false)) rfl (by kernel_rfl) (by kernel_rfl) (by kernel_rfl) (fun _ _ _ h => h) (Or.inl ⟨by rfl, by intro w hSw; (try dsimp only at hSw); simp only [List.getElem_toArray, List.getElem_cons_zero, List.getElem_cons_succ]; go_simp⟩) (by assumption) ?_
    simp only [Act.put, List.getElem_toArray, List.getElem_cons_zero, List.getElem_cons_succ, List.setIfInBounds_toArray, List.set_cons_zero, List.set_cons_succ]
    refine wpAnyH_take (i := 9) (v := (.bool false)) rfl (by kernel_rfl) (by kernel_rfl) (by kernel_rfl) (fun _ _ _ h => h) (Or.inl ⟨by rfl, by intro w hSw; (try dsimp only at hSw); simp only [List.getElem_toArray, List.getElem_cons_zero, List.getElem_cons_succ]; go_simp⟩) (by assumption) ?_
    simp only [Act.put, List.getElem_toArray, List.getElem_cons_zero, List.getElem_cons_succ, List.setIfInBounds_toArray, List.set_cons_zero, List.set_cons_succ]
    refine wpAnyH_take (i := 10) (v := (.int .i64 1)) rfl (by kernel_rfl) (by kernel_rfl) (by kernel_rfl) (fun _ _ _ h => h) (Or.inl ⟨by rfl, by intro w hSw; (try dsimp only at hSw); simp only [List.getElem_toArray, List.getElem_cons_zero, List.getElem_cons_succ]; go_simp⟩) (by assumption) ?_
    simp only [Act.put, List.getElem_toArray, List.getElem_cons_zero, List.getElem_cons_succ, List.setIfInBounds_toArray, List.set_cons_zero, List.set_cons_succ]
    refine wpAnyH_take (i := 11) (v := (.bool false)) rfl (by kernel_rfl) (by kernel_rfl) (by kernel_rfl) (fun _ _ _ h => h) (Or.inl ⟨by rfl, by intro w hSw; (try dsimp only at hSw); simp only [List.getElem_toArray, List.getElem_cons_zero, List.getElem_cons_succ]; go_simp⟩) (by assumption) ?_
    simp only [Act.put, List.getElem_toArray, List.getElem_cons_zero, List.getElem_cons_succ, List.setIfInBounds_toArray, List.set_cons_zero, List.set_cons_succ]
    refine wpAnyH_take (i := 12) (v := (.bool false)) rfl (by kernel_rfl) (by kernel_rfl) (by kernel_rfl) (fun _ _ _ h => h) (Or.inl ⟨by rfl, by intro w hSw; (try dsimp only at hSw); simp only [List.getElem_toArray, List.getElem_cons_zero, List.getElem_cons_succ]; go_simp⟩) (by assumption) ?_
    simp only [Act.put, List.getElem_toArray, List.getElem_cons_zero, List.getElem_cons_succ, List.setIfInBounds_toArray, List.set_cons_zero, List.set_cons_succ]
    refine wpAnyH_take (i := 13) (v := undef) rfl (by kernel_rfl) (by kernel_rfl) (by kernel_rfl) (fun _ _ _ h => h) (Or.inr ⟨by rfl, rfl⟩) (by assumption) ?_
    simp only [Act.put, List.getElem_toArray, List.getElem_cons_zero, List.getElem_cons_succ, List.setIfInBounds_toArray, List.set_cons_zero, List.set_cons_succ]
    refine wpAnyH_take (i := 14) (v := undef) rfl (by kernel_rfl) (by kernel_rfl) (by kernel_rfl) (fun _ _ _ h => h) (Or.inr ⟨by rfl, rfl⟩) (by assumption) ?_
    simp only [Act.put, List.getElem_toArray, List.getElem_cons_zero, List.getElem_cons_succ, List.setIfInBounds_toArray, List.set_cons_zero, List.set_cons_succ]
    refine wpAnyH_take (i := 15) (v := undef) rfl (by kernel_rfl) (by kernel_rfl) (by kernel_rfl) (fun _ _ _ h => h) (Or.inr ⟨by rfl, rfl⟩) (by assumption) ?_
    simp only [Act.put, List.getElem_toArray, List.getElem_cons_zero, List.getElem_cons_succ, List.setIfInBounds_toArray, List.set_cons_zero, List.set_cons_succ]
    refine wpAnyH_take (i := 16) (v := undef) rfl (by kernel_rfl) (by kernel_rfl) (by kernel_rfl) (fun _ _ _ h => h) (Or.inr ⟨by rfl, rfl⟩) (by assumption) ?_
    simp only [Act.put, List.getElem_toArray, List.getElem_cons_zero, List.getElem_cons_succ, List.setIfInBounds_toArray, List.set_cons_zero, List.set_cons_succ]
    refine wpAnyH_take (i := 17) (v := undef) rfl (by kernel_rfl) (by kernel_rfl) (by kernel_rfl) (fun _ _ _ h => h) (Or.inr ⟨by rfl, rfl⟩) (by assumption) ?_
    simp only [Act.put, List.getElem_toArray, List.getElem_cons_zero, List.getElem_cons_succ, List.setIfInBounds_toArray, List.set_cons_zero, List.set_cons_succ]
    refine wpAnyH_take (i := 18) (v := undef) rfl (by kernel_rfl) (by kernel_rfl) (by kernel_rfl) (fun _ _ _ h => h) (Or.inr ⟨by rfl, rfl⟩) (by assumption) ?_
    simp only [Act.put, List.getElem_toArray, List.getElem_cons_zero, List.getElem_cons_succ, List.setIfInBounds_toArray, List.set_cons_zero, List.set_cons_succ]
    refine wpAnyH_take (i := 19) (v := undef) rfl (by kernel_rfl) (by kernel_rfl) (by kernel_rfl) (fun _ _ _ h => h) (Or.inr ⟨by rfl, rfl⟩) (by assumption) ?_
    simp only [Act.put, List.getElem_toArray, List.getElem_cons_zero, List.getElem_cons_succ, List.setIfInBounds_toArray, List.set_cons_zero, List.set_cons_succ]
    refine wpAnyH_take (i := 20) (v := undef) rfl (by kernel_rfl) (by kernel_rfl) (by kernel_rfl) (fun _ _ _ h => h) (Or.inr ⟨by rfl, rfl⟩) (by assumption) ?_
    simp only [Act.put, List.getElem_toArray, List.getElem_cons_zero, List.getElem_cons_succ, List.setIfInBounds_toArray, List.set_cons_zero, List.set_cons_succ]
    refine wpAnyH_take (i := 21) (v := undef) rfl (by kernel_rfl) (by kernel_rfl) (by kernel_rfl) (fun _ _ _ h => h) (Or.inr ⟨by rfl, rfl⟩) (by assumption) ?_
    simp only [Act.put, List.getElem_toArray, List.getElem_cons_zero, List.getElem_cons_succ, List.setIfInBounds_toArray, List.set_cons_zero, List.set_cons_succ]
    refine wpAnyH_take (i := 22) (v := (.bool false)) rfl (by kernel_rfl) (by kernel_rfl) (by kernel_rfl) (fun _ _ _ h => h) (Or.inl ⟨by rfl, by intro w hSw; (try dsimp only at hSw); simp only [List.getElem_toArray, List.getElem_cons_zero, List.getElem_cons_succ]; go_simp⟩) (by assumption) ?_
    simp only [Act.put, List.getElem_toArray, List.getElem_cons_zero, List.getElem_cons_succ, List.setIfInBounds_toArray, List.set_cons_zero, List.set_cons_succ]
    refine wpAnyH_take (i := 23) (v := (.bool false)) rfl (by kernel_rfl) (by kernel_rfl) (by kernel_rfl) (fun _ _ _ h => h) (Or.inl ⟨by rfl, by intro w hSw; (try dsimp only at hSw); simp only [List.getElem_toArray, List.getElem_cons_zero, List.getElem_cons_succ]; go_simp⟩) (by assumption) ?_
    simp only [Act.put, List.getElem_toArray, List.getElem_cons_zero, List.getElem_cons_succ, List.setIfInBounds_toArray, List.set_cons_zero, List.set_cons_succ]
    refine wpAnyH_done (by kernel_rfl) ?_ _
    have A9 := Lib.hid S3.out.l4
    clear S1 S2 S3
    go_upto_region 9 with (fail)
    rcases hor with ⟨rfl, rfl⟩ | ⟨rfl, rfl⟩
    case inl =>
      go_upto_region 10 with (first
        | (go_at_call 10; with_reducible refine (P3.out WB A9.out.env).mono ?_; rintro e WP ⟨ys, vy, rfl, bp⟩
           have AP := Lib.hid (A9.out.later bp)
           have XY := Lib.hid vy
           have NP := Lib.hid (newBox WP vy.len)
           have TP := Lib.hid (newBelow WP ys)
           have HP := Lib.hid (newThere WP vy.len)
           clear bp vy)
        | (refine wpList_store_mid rfl 30 (.tmp 13) (.tmp 79) rfl WP.heap.size 0 ys.toArray rfl rfl HP.out XY.out.infoA (all_oneCell_toArray XY.out.one) ?_
           simp only [List.toList_toArray]
           obtain ⟨WQ, hWQ⟩ : ∃ WQ, (WP.alloc (.cells #[Value.int .u32 0, Value.int .u32 0, Value.int .u32 0, Value.int .u32 0, Value.int .u32 0, Value.int .u32 0, Value.int .u32 0, Value.int .u32 0, Value.int .u32 0, Value.int .u32 0, Value.int .u32 0, Value.int .u32 0, Value.int .u32 0, Value.int .u32 0, Value.int .u32 0, Value.int .u32 0, Value.int .u32 0, Value.int .u32 0, Value.int .u32 0, Value.int .u32 0, Value.int .u32 0, Value.int .u32 0, Value.int .u32 0, Value.int .u32 0, Value.int .u32 0, Value.int .u32 0, Value.int .u32 0, Value.int .u32 0, Value.int .u32 0, .slice none 0 0, .bool false, .int .i64 0, .slice none 0 0] 30)).setCells WP.heap.size 0 ys = WQ := ⟨_, rfl⟩
           rw [hWQ] at NP TP
           simp only [hWQ]
           have AQ := Lib.hid (AP.out.later TP.out)
           have VQ := Lib.hid (XY.out.later TP.out)
           clear hWQ))
      go_upto_region 11 with (first
        | (refine wpList_load_mid rfl 30 (.tmp 13) rfl WP.heap.size 0 rfl ys _ NP.out.range Tryd.underlying30 rfl XY.out.info ?_)
        | (go_at_call 8; with_reducible refine (F3.out WQ ys AQ.out.env VQ.out).mono ?_; rintro e WR ⟨rfl, br⟩
           have AR := Lib.hid (AQ.out.later br)
           have NR := Lib.hid (NP.out.later br)
           have VR := Lib.hid (VQ.out.later br)
           clear br))
      have r1 : (T.toList == T.toList) = true := beq_self_eq_true _
      go_wp2
      go_ret
      exact ⟨rfl, AR.out.below⟩
    case inr =>
      go_upto_region 10 with (first
        | (go_at_call 10; with_reducible refine (P3.out WB A9.out.env).mono ?_; rintro e WP ⟨ys, vy, rfl, bp⟩
           have AP := Lib.hid (A9.out.later bp)
           have XY := Lib.hid vy
           have NP := Lib.hid (newBox WP vy.len)
           have TP := Lib.hid (newBelow WP ys)
           have HP := Lib.hid (newThere WP vy.len)
           clear bp vy)
        | (refine wpList_store_mid rfl 30 (.tmp 13) (.tmp 79) rfl WP.heap.size 0 ys.toArray rfl rfl HP.out XY.out.infoA (all_oneCell_toArray XY.out.one) ?_
           simp only [List.toList_toArray]
           obtain ⟨WQ, hWQ⟩ : ∃ WQ, (WP.alloc (.cells #[Value.int .u32 0, Value.int .u32 0, Value.int .u32 0, Value.int .u32 0, Value.int .u32 0, Value.int .u32 0, Value.int .u32 0, Value.int .u32 0, Value.int .u32 0, Value.int .u32 0, Value.int .u32 0, Value.int .u32 0, Value.int .u32 0, Value.int .u32 0, Value.int .u32 0, Value.int .u32 0, Value.int .u32 0, Value.int .u32 0, Value.int .u32 0, Value.int .u32 0, Value.int .u32 0, Value.int .u32 0, Value.int .u32 0, Value.int .u32 0, Value.int .u32 0, Value.int .u32 0, Value.int .u32 0, Value.int .u32 0, Value.int .u32 0, .slice none 0 0, .bool false, .int .i64 0, .slice none 0 0] 30)).setCells WP.heap.size 0 ys = WQ := ⟨_, rfl⟩
           rw [hWQ] at NP TP
           simp only [hWQ]
           have AQ := Lib.hid (AP.out.later TP.out)
           have VQ := Lib.hid (XY.out.later TP.out)
           clear hWQ))
      go_upto_region 11 with (first
        | (refine wpList_load_mid rfl 30 (.tmp 13) rfl WP.heap.size 0 rfl ys _ NP.out.range Tryd.underlying30 rfl XY.out.info ?_)
        | (go_at_call 8; with_reducible refine (F3.out WQ ys AQ.out.env VQ.out).mono ?_; rintro e WR ⟨rfl, br⟩
           have AR := Lib.hid (AQ.out.later br)
           have NR := Lib.hid (NP.out.later br)
           have VR := Lib.hid (VQ.out.later br)
           clear br))
      go_wp2_with (first
        | (refine wpList_load_midG rfl 30 (.tmp 13) rfl WP.heap.size 0 rfl ys _ NR.out.range Tryd.underlying30 rfl XY.out.info ?_)
        | (go_at_call 12; refine (same_any ys (vcs zeroV none 0 none 0) zeroV zeroV WR VR.out (vc_lit WR zeroV_wf rfl rfl) (Nat.zero_le _) (Nat.zero_le _)).mono ?_; rintro e WS ⟨rfl, bs⟩; have AS := Lib.hid (AR.out.later bs); clear bs))
      go_ret
      exact ⟨rfl, AS.out.below⟩
end Go.Proofs.YtnfkimhhgflfjaaDoor.Rep
