/- gaolerlaw28.ReportParseFormatted, walked where the first virtual CPU cannot be formatted. -/
import Derived.Test.YtnfkimhhgflfjaaDoorR25
namespace Go.Proofs.YtnfkimhhgflfjaaDoor.Rep
open Go Go.RowKit Go.Shelf
set_option linter.unusedVariables false
set_option linter.unusedSimpArgs false
/-! ### gaolerlaw28.ReportParseFormatted, walked -/
theorem text_len {v : Vp} (hf : fOk v = true) (hw : v.wf) (h : fewV v = true) : (textL v).length < 1000000 := by
  unfold fewV at h
  simp only [Bool.and_eq_true, decide_eq_true_eq] at h
  obtain ⟨h1, h2, h3⟩ := fOk_parts hf
  have hpc := hw.pc
  unfold w32 at hpc
  have a1 : (lineS (headL v)).length ≤ (1300 + 1) * 5 + 1 := lineS_len _ _ _ rfl (fun x hx => by
    simp only [headL, List.mem_cons, List.not_mem_nil, or_false] at hx
    rcases hx with rfl | rfl | rfl | rfl | rfl
    · decide
    · have := dec_len v.done.toNat (by omega); omega
    · have := dec_len v.pc.toNat (by omega); omega
    · unfold howS; split <;> decide
    · have := hexS_len v.out; omega)
  have a2 : ∀ l : List Ev, (∀ e ∈ l, e.wf ∧ 0 ≤ e.pos ∧ e.pos < 1099511627776) → (l.flatMap (fun e => lineS (evL e))).length ≤ 100 * l.length := by
    intro l
    induction l with
    | nil => intro _; simp
    | cons e l ih =>
      intro h
      have h1 := ih (fun x hx => h x (List.mem_cons_of_mem _ hx))
      obtain ⟨g1, g2, g3⟩ := h e List.mem_cons_self
      unfold Ev.wf at g1
      have h2 : (lineS (evL e)).length ≤ (20 + 1) * 3 + 1 := lineS_len _ _ _ rfl (fun x hx => by
        simp only [evL, List.mem_cons, List.not_mem_nil, or_false] at hx
        rcases hx with rfl | rfl | rfl
        · have : ∀ k : Nat, (wordsL.getD k []).length ≤ 20 := fun k => by
            match k with
            | 0 => decide
            | 1 => decide
            | 2 => decide
            | 3 => decide
            | n + 4 => simp [wordsL]
          exact this _
        · exact dec_len _ (by omega)
        · exact dec_len _ (by omega))
      rw [List.flatMap_cons, List.length_append, List.length_cons]
      omega
  have a3 := a2 v.log (fun e he => by
    have := vld_each v.log v.done (-1) (by omega) h2 e he
    exact ⟨hw.log e he, this.2.2.1, by omega⟩)
  unfold textL
  rw [List.length_append]
  omega
theorem few_len {v : Vp} (h : fewV v = true) : v.out.length ≤ 1000000 ∧ v.log.length ≤ 1000000 := by
  unfold fewV at h
  simp only [Bool.and_eq_true, decide_eq_true_eq] at h
  omega
/-- What the last part of the law asks: Parse's answer on s, and Format's on that. -/
theorem last_parts (l : List UInt8) (hl : l.length ≤ 2000) : ∃ (Y : Vp) (g : Int) (T : ByteArray),
    ((g = 0 ∧ T = ⟨l.toArray⟩) ∨ (g = 2 ∧ Y = zeroV)) ∧
    (∀ W, Env W → Calls Tryd.prog 10 #[.string ⟨l.toArray⟩] W fun e w' => ∃ ys, VC w' ys Y ∧ e = .returned (.tuple #[.agg ys.toArray, .int .i64 g]) ∧ Below W.heap.size W w') ∧
    (∀ W ys, Env W → VC W ys Y → Calls Tryd.prog 8 #[.agg ys.toArray] W fun e w' => e = .returned (.tuple #[.string T, .int .i64 0]) ∧ Below W.heap.size W w') := by
  have hP := fun W hE => parse_any l (by omega) W hE
  cases ho : okS l with
  | true =>
    have ho' := ho
    unfold okS at ho'
    obtain ⟨a, b⟩ := Bool.and_eq_true _ _ ▸ ho'
    have b := of_decide_eq_true b
    refine ⟨readS l, 0, ⟨l.toArray⟩, .inl ⟨rfl, rfl⟩, fun W hE => ?_, fun W ys hE hv => ?_⟩
    · have h := hP W hE
      rw [ho] at h
      exact h.mono fun e w' ⟨hb, ds, hv, he⟩ => ⟨ds, hv, he, hb⟩
    · have hlen : (readS l).out.length ≤ 1000000 ∧ (readS l).log.length ≤ 1000000 := by
        have hg := splitL_glue l
        have g1 := len_glue (splitL l).1 (splitL l).2
        rw [hg] at g1
        have g2 := foldV_log ((splitL l).1 ++ [(splitL l).2]) 0 zeroV
        have g3 : zeroV.log.length = 0 := rfl
        have g4 : ((splitL l).1 ++ [(splitL l).2]).length = (splitL l).1.length + 1 := by simp
        refine ⟨foldV_out _ _ _ _ (Nat.zero_le _) (fun x hx => ?_), ?_⟩
        · rcases List.mem_append.1 hx with hx | hx
          · have := mem_glue (splitL l).1 (splitL l).2 x hx
            rw [hg] at this
            omega
          · rw [List.mem_singleton] at hx; subst hx; omega
        · unfold readS readV; omega
      have h := format_any ys (readS l) W hE hv hlen.1 hlen.2
      rw [b] at h
      unfold fmtE at h
      rw [if_pos a] at h
      exact h
  | false =>
    refine ⟨zeroV, 2, ⟨awZ.toArray⟩, .inr ⟨rfl, rfl⟩, fun W hE => ?_, fun W ys hE hv => ?_⟩
    · have h := hP W hE
      rw [ho] at h
      exact h.mono fun e w' ⟨hb, ds, hv, he⟩ => ⟨ds, hv, he, hb⟩
    · have h := format_any ys zeroV W hE hv (Nat.zero_le _) (Nat.zero_le _)
      unfold fmtS fmtE at h
      rw [if_pos aw_zero.2, if_pos aw_zero.2, aw_zero.1] at h
      exact h
set_option maxRecDepth 100000 in
set_option maxHeartbeats 8000000 in
theorem law4_bad (cs ds : List Value) (u v : Vp) (l : List UInt8) (w : World) (hE : Env w) (hu : VC w cs u) (hv : VC w ds v) (f1 : fewV u = true) (f2 : fewV v = true) (hl : l.length ≤ 2000) (hf : fOk u = false) :
    Calls Tryd.prog 4 #[.agg cs.toArray, .agg ds.toArray, .string ⟨l.toArray⟩] w fun e w' => e = .returned (.bool true) ∧ Below w.heap.size w w' := by
  obtain ⟨Y, g, T, hor, hp3, hf3⟩ := last_parts l hl
  obtain ⟨S, hS⟩ : ∃ S : ByteArray, ⟨l.toArray⟩ = S := ⟨_, rfl⟩
  have hsz : S.size = l.length := by rw [← hS]; exact List.size_toArray
  rw [hS] at hor hp3 ⊢
  have P3 := Lib.hid hp3
  have F3 := Lib.hid hf3
  obtain ⟨W1, hW1⟩ : ∃ W1, (w.alloc (.cells cs.toArray 30)).alloc (.cells ds.toArray 30) = W1 := ⟨_, rfl⟩
  have X1 := Lib.hid hW1
  have A1 := Lib.hid (l4_start w hE cs ds u v hu hv hW1)
  have G1 : Hid (∀ W, VC W cs u → Calls Tryd.prog 7 #[.agg cs.toArray] W fun e w' => e = .returned (.bool true) ∧ Below W.heap.size W w') := Lib.hid (fun W h => by have := few_any cs u W h; rw [f1] at this; exact this)
  have G2 : Hid (∀ W, VC W ds v → Calls Tryd.prog 7 #[.agg ds.toArray] W fun e w' => e = .returned (.bool true) ∧ Below W.heap.size W w') := Lib.hid (fun W h => by have := few_any ds v W h; rw [f2] at this; exact this)
  have q1 : decide ((2000 : Int) < (S.size : Int)) = false := decide_eq_false (by omega)
  have q0 : ¬ (2000 : Int) < (S.size : Int) := by omega
  have M1 : Hid (∀ W, Env W → VC W cs u → Calls Tryd.prog 8 #[.agg cs.toArray] W fun e w' => e = .returned (.tuple #[.string (fmtS u), .int .i64 1]) ∧ Below W.heap.size W w') := Lib.hid (fun W hE h => by
    have := format_any cs u W hE h (few_len f1).1 (few_len f1).2
    unfold fmtE at this
    rw [if_neg (by rw [hf]; decide)] at this
    exact this)
  have M2 : Hid (∀ W, Env W → VC W ds v → Calls Tryd.prog 8 #[.agg ds.toArray] W fun e w' => e = .returned (.tuple #[.string (fmtS v), .int .i64 (fmtE v)]) ∧ Below W.heap.size W w') := Lib.hid (fun W hE h => format_any ds v W hE h (few_len f2).1 (few_len f2).2)
  obtain ⟨a1, ha1⟩ : ∃ a, fmtS u = a := ⟨_, rfl⟩
  obtain ⟨a2, ha2⟩ : ∃ a, fmtS v = a := ⟨_, rfl⟩
  obtain ⟨e2, he2⟩ : ∃ a, fmtE v = a := ⟨_, rfl⟩
  rw [ha1] at M1
  rw [ha2, he2] at M2
  clear hW1 hS hE hu hv f1 f2 hf hp3 hf3 ha1 ha2 he2 hsz hl
  go_enter Tryd.func4, Tryd.ntmps4
  go_upto_region 1 with (fail)
  simp only [X1.out]
  go_upto_region 3 with (first
    | (go_at_call 6; with_reducible refine (awake_any W1 A1.out.env).mono ?_; rintro e W2 ⟨rfl, b2⟩; have A2 := Lib.hid (A1.out.later b2); clear b2)
    | (refine wpList_load_midG rfl 30 (.tmp 3) rfl w.heap.size 0 rfl cs _ A2.out.rA Tryd.underlying30 rfl A2.out.vA.info ?_)
    | (go_at_call 7; with_reducible refine (G1.out W2 A2.out.vA).mono ?_; rintro e W3 ⟨rfl, b3⟩; have A3 := Lib.hid (A2.out.later b3); clear b3)
    | (refine wpList_load_midG rfl 30 (.tmp 4) rfl (w.heap.size + 1) 0 rfl ds _ A3.out.rB Tryd.underlying30 rfl A3.out.vB.info ?_)
    | (go_at_call 7; with_reducible refine (G2.out W3 A3.out.vB).mono ?_; rintro e W4 ⟨rfl, b4⟩; have A4 := Lib.hid (A3.out.later b4); clear b4))
  go_upto_region 4 with (first
    | (refine wpList_load_mid rfl 30 (.tmp 3) rfl w.heap.size 0 rfl cs _ A4.out.rA Tryd.underlying30 rfl A4.out.vA.info ?_)
    | (go_at_call 8; with_reducible refine (M1.out W4 A4.out.env A4.out.vA).mono ?_; rintro e W5 ⟨rfl, b5⟩; have A5 := Lib.hid (A4.out.later b5); clear b5))
  go_upto_region 9 with (first
    | (refine wpList_load_mid rfl 30 (.tmp 4) rfl (w.heap.size + 1) 0 rfl ds _ A5.out.rB Tryd.underlying30 rfl A5.out.vB.info ?_)
    | (go_at_call 8; with_reducible refine (M2.out W5 A5.out.env A5.out.vB).mono ?_; rintro e W6 ⟨rfl, b6⟩; have A6 := Lib.hid (A5.out.later b6); clear b6))
  rcases hor with ⟨rfl, rfl⟩ | ⟨rfl, rfl⟩
  case inl =>
    go_upto_region 10 with (first
      | (go_at_call 10; with_reducible refine (P3.out W6 A6.out.env).mono ?_; rintro e WP ⟨ys, vy, rfl, bp⟩
         have AP := Lib.hid (A6.out.later bp)
         have XY := Lib.hid vy
         have NP := Lib.hid (newBox WP vy.len)
         have TP := Lib.hid (newBelow WP ys)
         have HP := Lib.hid (newThere WP vy.len)
         clear bp vy)
      | (refine wpList_store_mid rfl 30 (.tmp 13) (.tmp 79) rfl WP.heap.size 0 ys.toArray rfl rfl HP.out XY.out.infoA (all_oneCell_toArray XY.out.one) ?_
         simp only [List.toList_toArray]
         obtain ⟨WQ, hWQ⟩ : ∃ WQ, (WP.alloc (.cells #[Value.int .u32 0, Value.int .u32 0, Value.int .u32 0, Value.int .u32 0, Value.int .u32 0, Value.int .u32 0, Value.int .u32 0, Value.int .u32 0, Value.int .u32 0, Value.int .u32 0, Value.int .u32 0, Value.int .u32 0, Value.int .u32 0, Value.int .u32 0, Value.int .u32 0, Value.int .u32 0, Value.int .u32 0, Value.int .u32 0, Value.int .u32 0, Value.int .u32 0, Value.int .u32 0, Value.int .u32 0, Value.int .u32 0, Value.int .u32 0, Value.int .u32 0, Value.int .u32 0, Value.int .u32 0, Value.int .u32 0, Value.int .u32 0, .slice none 0 0, .bool false, .int .i64 0, .slice none 0 0] 30)).setCells WP.heap.size 0 ys = WQ := ⟨_, rfl⟩
         rw [hWQ] at NP TP
         simp only [hWQ]
         have AQ := Lib.hid (AP.out.later TP.out)
         have VQ := Lib.hid (XY.out.later TP.out)
         clear hWQ))
    go_upto_region 11 with (first
      | (refine wpList_load_mid rfl 30 (.tmp 13) rfl WP.heap.size 0 rfl ys _ NP.out.range Tryd.underlying30 rfl XY.out.info ?_)
      | (go_at_call 8; with_reducible refine (F3.out WQ ys AQ.out.env VQ.out).mono ?_; rintro e WR ⟨rfl, br⟩
         have AR := Lib.hid (AQ.out.later br)
         have NR := Lib.hid (NP.out.later br)
         have VR := Lib.hid (VQ.out.later br)
         clear br))
    have r1 : (T.toList == T.toList) = true := beq_self_eq_true _
    go_wp2
    go_ret
    exact ⟨rfl, AR.out.below⟩
  case inr =>
    go_upto_region 10 with (first
      | (go_at_call 10; with_reducible refine (P3.out W6 A6.out.env).mono ?_; rintro e WP ⟨ys, vy, rfl, bp⟩
         have AP := Lib.hid (A6.out.later bp)
         have XY := Lib.hid vy
         have NP := Lib.hid (newBox WP vy.len)
         have TP := Lib.hid (newBelow WP ys)
         have HP := Lib.hid (newThere WP vy.len)
         clear bp vy)
      | (refine wpList_store_mid rfl 30 (.tmp 13) (.tmp 79) rfl WP.heap.size 0 ys.toArray rfl rfl HP.out XY.out.infoA (all_oneCell_toArray XY.out.one) ?_
         simp only [List.toList_toArray]
         obtain ⟨WQ, hWQ⟩ : ∃ WQ, (WP.alloc (.cells #[Value.int .u32 0, Value.int .u32 0, Value.int .u32 0, Value.int .u32 0, Value.int .u32 0, Value.int .u32 0, Value.int .u32 0, Value.int .u32 0, Value.int .u32 0, Value.int .u32 0, Value.int .u32 0, Value.int .u32 0, Value.int .u32 0, Value.int .u32 0, Value.int .u32 0, Value.int .u32 0, Value.int .u32 0, Value.int .u32 0, Value.int .u32 0, Value.int .u32 0, Value.int .u32 0, Value.int .u32 0, Value.int .u32 0, Value.int .u32 0, Value.int .u32 0, Value.int .u32 0, Value.int .u32 0, Value.int .u32 0, Value.int .u32 0, .slice none 0 0, .bool false, .int .i64 0, .slice none 0 0] 30)).setCells WP.heap.size 0 ys = WQ := ⟨_, rfl⟩
         rw [hWQ] at NP TP
         simp only [hWQ]
         have AQ := Lib.hid (AP.out.later TP.out)
         have VQ := Lib.hid (XY.out.later TP.out)
         clear hWQ))
    go_upto_region 11 with (first
      | (refine wpList_load_mid rfl 30 (.tmp 13) rfl WP.heap.size 0 rfl ys _ NP.out.range Tryd.underlying30 rfl XY.out.info ?_)
      | (go_at_call 8; with_reducible refine (F3.out WQ ys AQ.out.env VQ.out).mono ?_; rintro e WR ⟨rfl, br⟩
         have AR := Lib.hid (AQ.out.later br)
         have NR := Lib.hid (NP.out.later br)
         have VR := Lib.hid (VQ.out.later br)
         clear br))
    go_wp2_with (first
      | (refine wpList_load_midG rfl 30 (.tmp 13) rfl WP.heap.size 0 rfl ys _ NR.out.range Tryd.underlying30 rfl XY.out.info ?_)
      | (go_at_call 12; refine (same_any ys (vcs zeroV none 0 none 0) zeroV zeroV WR VR.out (vc_lit WR zeroV_wf rfl rfl) (Nat.zero_le _) (Nat.zero_le _)).mono ?_; rintro e WS ⟨rfl, bs⟩; have AS := Lib.hid (AR.out.later bs); clear bs))
    go_ret
    exact ⟨rfl, AS.out.below⟩
end Go.Proofs.YtnfkimhhgflfjaaDoor.Rep
