/- gaolerlaw28.ReportMatchesReference. -/
import Derived.Test.YtnfkimhhgflfjaaDoorR29
import Derived.Test.YtnfkimhhgflfjaaDoorR39
namespace Go.Proofs.YtnfkimhhgflfjaaDoor.Rep
open Go Go.RowKit Go.Shelf
set_option linter.unusedVariables false
set_option linter.unusedSimpArgs false
/-! ### gaolerlaw28.ReportMatchesReference, walked -/
/-- What stands throughout the law: its boxed argument. -/
structure L3 (w : World) (cs : List Value) (v : Vp) (W : World) : Prop where
  env : Env W
  below : Below w.heap.size w W
  lt : w.heap.size < W.heap.size
  rA : W.rangeAt w.heap.size 0 cs
  vA : VC W cs v
theorem L3.later {w W W' : World} {cs : List Value} {v : Vp} (h : L3 w cs v W) (hb : Below W.heap.size W W') : L3 w cs v W' :=
  ⟨h.env.later hb, h.below.trans (hb.mono h.below.size), Nat.lt_of_lt_of_le h.lt hb.size, range_later h.rA h.lt hb, h.vA.later hb⟩
theorem l3_start (w : World) (hE : Env w) (cs : List Value) (v : Vp) (hv : VC w cs v) {W1 : World} (hW : w.alloc (.cells cs.toArray 30) = W1) : L3 w cs v W1 := by
  have b0 : Below w.heap.size w W1 := by rw [← hW]; exact (Below.refl w.heap.size w).alloc (Nat.le_refl _) _
  refine ⟨hE.later b0, b0, by rw [← hW]; simp, fun j x hj => ?_, hv.later b0⟩
  rw [Nat.zero_add, ← hW, World.cell?_alloc_new]
  simpa using hj
set_option maxRecDepth 100000 in
set_option maxHeartbeats 8000000 in
theorem law3_out (cs : List Value) (v : Vp) (l : List UInt8) (w : World) (hE : Env w) (hv : VC w cs v) (hno : fewV v = false ∨ (fewV v = true ∧ 2000 < l.length)) :
    Calls Tryd.prog 3 #[.agg cs.toArray, .string ⟨l.toArray⟩] w fun e w' => e = .returned (.bool true) ∧ Below w.heap.size w w' := by
  obtain ⟨S, hS⟩ : ∃ S : ByteArray, ⟨l.toArray⟩ = S := ⟨_, rfl⟩
  have hsz : S.size = l.length := by rw [← hS]; exact List.size_toArray
  rw [hS]
  obtain ⟨W1, hW1⟩ : ∃ W1, w.alloc (.cells cs.toArray 30) = W1 := ⟨_, rfl⟩
  have X1 := Lib.hid hW1
  have A1 := Lib.hid (l3_start w hE cs v hv hW1)
  have F1 : Hid (∀ W, VC W cs v → Calls Tryd.prog 7 #[.agg cs.toArray] W fun e w' => e = .returned (.bool (fewV v)) ∧ Below W.heap.size W w') := Lib.hid (fun W h => few_any cs v W h)
  clear hW1 hS hE hv
  rcases hno with h1 | ⟨h1, h3⟩
  · rw [h1] at F1
    clear h1
    go_enter Tryd.func3, Tryd.ntmps3
    go_upto_region 1 with (fail)
    simp only [X1.out]
    go_wp2_with (first
      | (go_at_call 6; with_reducible refine (awake_any W1 A1.out.env).mono ?_; rintro e W2 ⟨rfl, b2⟩; have A2 := Lib.hid (A1.out.later b2); clear b2)
      | (refine wpList_load_midG rfl 30 (.tmp 2) rfl w.heap.size 0 rfl cs _ A2.out.rA Tryd.underlying30 rfl A2.out.vA.info ?_)
      | (go_at_call 7; with_reducible refine (F1.out W2 A2.out.vA).mono ?_; rintro e W3 ⟨rfl, b3⟩; have A3 := Lib.hid (A2.out.later b3); clear b3)
      | (go_at_call 6; with_reducible refine (awake_any W3 A3.out.env).mono ?_; rintro e W4 ⟨rfl, b4⟩; have A4 := Lib.hid (A3.out.later b4); clear b4))
    go_ret
    exact ⟨rfl, A4.out.below⟩
  · rw [h1] at F1
    have q0 : (2000 : Int) < (S.size : Int) := by omega
    have q1 : decide ((2000 : Int) < (S.size : Int)) = true := decide_eq_true q0
    clear h1 h3 hsz
    go_enter Tryd.func3, Tryd.ntmps3
    go_upto_region 1 with (fail)
    simp only [X1.out]
    go_wp2_with (first
      | (go_at_call 6; with_reducible refine (awake_any W1 A1.out.env).mono ?_; rintro e W2 ⟨rfl, b2⟩; have A2 := Lib.hid (A1.out.later b2); clear b2)
      | (refine wpList_load_midG rfl 30 (.tmp 2) rfl w.heap.size 0 rfl cs _ A2.out.rA Tryd.underlying30 rfl A2.out.vA.info ?_)
      | (go_at_call 7; with_reducible refine (F1.out W2 A2.out.vA).mono ?_; rintro e W3 ⟨rfl, b3⟩; have A3 := Lib.hid (A2.out.later b3); clear b3)
      | (go_at_call 6; with_reducible refine (awake_any W3 A3.out.env).mono ?_; rintro e W4 ⟨rfl, b4⟩; have A4 := Lib.hid (A3.out.later b4); clear b4))
    go_ret
    exact ⟨rfl, A4.out.below⟩
/-- What Parse and Get answer on a text. -/
theorem both_parts (l : List UInt8) (hl : l.length ≤ 2000) : ∃ (Y : Vp) (g : Int), (Y.out.length ≤ 1000000 ∧ Y.log.length ≤ 1000000) ∧
    (∀ W, Env W → Calls Tryd.prog 10 #[.string ⟨l.toArray⟩] W fun e w' => ∃ ys, VC w' ys Y ∧ e = .returned (.tuple #[.agg ys.toArray, .int .i64 g]) ∧ Below W.heap.size W w') ∧
    (∀ W, Env W → Calls Tryd.prog 11 #[.string ⟨l.toArray⟩] W fun e w' => ∃ ys, VC w' ys Y ∧ e = .returned (.tuple #[.agg ys.toArray, .int .i64 g]) ∧ Below W.heap.size W w') := by
  have hP := fun W hE => parse_any l (by omega) W hE
  have hG := fun W hE => get_go l hl W hE
  obtain ⟨h1, h2⟩ := get_same l
  have hb : (getS l).out.length ≤ 1000000 ∧ (getS l).log.length ≤ 1000000 :=
    ⟨foldG_out _ _ _ _ (Nat.zero_le _) (wordsA_mem l [] [] 1000000 (by simp; omega) (fun x hx => by cases hx)), by
      have := foldG_loglen (wordsG l) 0 zeroV
      have h0 : zeroV.log.length = 0 := rfl
      have h3 := wordsA_len l [] []
      unfold getS
      unfold wordsG at this ⊢
      omega⟩
  rw [h1] at hG
  cases ho : okS l with
  | true =>
    rw [ho] at hP hG
    rw [← h2 ho] at hP
    exact ⟨getS l, 0, hb, fun W hE => (hP W hE).mono fun e w' ⟨hb, ds, hv, he⟩ => ⟨ds, hv, he, hb⟩, fun W hE => (hG W hE).mono fun e w' ⟨hb, ds, hv, he⟩ => ⟨ds, hv, he, hb⟩⟩
  | false =>
    rw [ho] at hP hG
    exact ⟨zeroV, 2, ⟨Nat.zero_le _, Nat.zero_le _⟩, fun W hE => (hP W hE).mono fun e w' ⟨hb, ds, hv, he⟩ => ⟨ds, hv, he, hb⟩, fun W hE => (hG W hE).mono fun e w' ⟨hb, ds, hv, he⟩ => ⟨ds, hv, he, hb⟩⟩
set_option maxRecDepth 100000 in
set_option maxHeartbeats 8000000 in
theorem law3_main (cs : List Value) (v : Vp) (l : List UInt8) (w : World) (hE : Env w) (hv : VC w cs v) (f1 : fewV v = true) (hl : l.length ≤ 2000) :
    Calls Tryd.prog 3 #[.agg cs.toArray, .string ⟨l.toArray⟩] w fun e w' => e = .returned (.bool true) ∧ Below w.heap.size w w' := by
  obtain ⟨Y, g, hYl, hp, hq⟩ := both_parts l hl
  have M1 : Hid (∀ W, Env W → VC W cs v → Calls Tryd.prog 8 #[.agg cs.toArray] W fun e w' => e = .returned (.tuple #[.string (fmtS v), .int .i64 (fmtE v)]) ∧ Below W.heap.size W w') := Lib.hid (fun W hE h => format_any cs v W hE h (few_len f1).1 (few_len f1).2)
  have M2 : Hid (∀ W, Env W → VC W cs v → Calls Tryd.prog 9 #[.agg cs.toArray] W fun e w' => e = .returned (.tuple #[.string (fmtS v), .int .i64 (fmtE v)]) ∧ Below W.heap.size W w') := Lib.hid (fun W hE h => put_any cs v W hE h (few_len f1).1 (few_len f1).2)
  obtain ⟨a1, ha1⟩ : ∃ a, fmtS v = a := ⟨_, rfl⟩
  obtain ⟨e1, he1⟩ : ∃ a, fmtE v = a := ⟨_, rfl⟩
  rw [ha1, he1] at M1 M2
  obtain ⟨S, hS⟩ : ∃ S : ByteArray, ⟨l.toArray⟩ = S := ⟨_, rfl⟩
  have hsz : S.size = l.length := by rw [← hS]; exact List.size_toArray
  rw [hS] at hp hq ⊢
  have P3 := Lib.hid hp
  have P4 := Lib.hid hq
  have SM : Hid (∀ xs ys W, VC W xs Y → VC W ys Y → Calls Tryd.prog 12 #[.agg xs.toArray, .agg ys.toArray] W fun e w' => e = .returned (.bool true) ∧ Below W.heap.size W w') := Lib.hid (fun xs ys W h1 h2 => by
    have := same_any xs ys Y Y W h1 h2 hYl.1 hYl.2
    rwa [decide_eq_true rfl] at this)
  obtain ⟨W1, hW1⟩ : ∃ W1, w.alloc (.cells cs.toArray 30) = W1 := ⟨_, rfl⟩
  have X1 := Lib.hid hW1
  have A1 := Lib.hid (l3_start w hE cs v hv hW1)
  have G1 : Hid (∀ W, VC W cs v → Calls Tryd.prog 7 #[.agg cs.toArray] W fun e w' => e = .returned (.bool true) ∧ Below W.heap.size W w') := Lib.hid (fun W h => by have := few_any cs v W h; rw [f1] at this; exact this)
  have q1 : decide ((2000 : Int) < (S.size : Int)) = false := decide_eq_false (by omega)
  have q0 : ¬ (2000 : Int) < (S.size : Int) := by omega
  clear hW1 hS hE hv f1 hp hq ha1 he1 hsz hl
  go_enter Tryd.func3, Tryd.ntmps3
  go_upto_region 1 with (fail)
  simp only [X1.out]
  go_upto_region 3 with (first
    | (go_at_call 6; with_reducible refine (awake_any W1 A1.out.env).mono ?_; rintro e W2 ⟨rfl, b2⟩; have A2 := Lib.hid (A1.out.later b2); clear b2)
    | (refine wpList_load_midG rfl 30 (.tmp 2) rfl w.heap.size 0 rfl cs _ A2.out.rA Tryd.underlying30 rfl A2.out.vA.info ?_)
    | (go_at_call 7; with_reducible refine (G1.out W2 A2.out.vA).mono ?_; rintro e W3 ⟨rfl, b3⟩; have A3 := Lib.hid (A2.out.later b3); clear b3))
  go_upto_region 4 with (first
    | (refine wpList_load_mid rfl 30 (.tmp 2) rfl w.heap.size 0 rfl cs _ A3.out.rA Tryd.underlying30 rfl A3.out.vA.info ?_)
    | (go_at_call 8; with_reducible refine (M1.out W3 A3.out.env A3.out.vA).mono ?_; rintro e W4 ⟨rfl, b4⟩; have A4 := Lib.hid (A3.out.later b4); clear b4))
  go_upto_region 5 with (first
    | (refine wpList_load_mid rfl 30 (.tmp 2) rfl w.heap.size 0 rfl cs _ A4.out.rA Tryd.underlying30 rfl A4.out.vA.info ?_)
    | (go_at_call 9; with_reducible refine (M2.out W4 A4.out.env A4.out.vA).mono ?_; rintro e W5 ⟨rfl, b5⟩; have A5 := Lib.hid (A4.out.later b5); clear b5))
  go_upto_region 6 with (first
    | (go_at_call 10; with_reducible refine (P3.out W5 A5.out.env).mono ?_; rintro e WP ⟨xs, vx, rfl, bp⟩
       have AP := Lib.hid (A5.out.later bp)
       have XX := Lib.hid vx
       have NP := Lib.hid (newBox WP vx.len)
       have TP := Lib.hid (newBelow WP xs)
       have HP := Lib.hid (newThere WP vx.len)
       clear bp vx)
    | (refine wpList_store_mid rfl 30 (.tmp 9) (.tmp 39) rfl WP.heap.size 0 xs.toArray rfl rfl HP.out XX.out.infoA (all_oneCell_toArray XX.out.one) ?_
       simp only [List.toList_toArray]
       obtain ⟨WQ, hWQ⟩ : ∃ WQ, (WP.alloc (.cells #[Value.int .u32 0, Value.int .u32 0, Value.int .u32 0, Value.int .u32 0, Value.int .u32 0, Value.int .u32 0, Value.int .u32 0, Value.int .u32 0, Value.int .u32 0, Value.int .u32 0, Value.int .u32 0, Value.int .u32 0, Value.int .u32 0, Value.int .u32 0, Value.int .u32 0, Value.int .u32 0, Value.int .u32 0, Value.int .u32 0, Value.int .u32 0, Value.int .u32 0, Value.int .u32 0, Value.int .u32 0, Value.int .u32 0, Value.int .u32 0, Value.int .u32 0, Value.int .u32 0, Value.int .u32 0, Value.int .u32 0, Value.int .u32 0, .slice none 0 0, .bool false, .int .i64 0, .slice none 0 0] 30)).setCells WP.heap.size 0 xs = WQ := ⟨_, rfl⟩
       rw [hWQ] at NP TP
       simp only [hWQ]
       have AQ := Lib.hid (AP.out.later TP.out)
       have VQ := Lib.hid (XX.out.later TP.out)
       clear hWQ))
  go_upto_region 7 with (first
    | (go_at_call 11; with_reducible refine (P4.out WQ AQ.out.env).mono ?_; rintro e WR ⟨ys, vy, rfl, br⟩
       have AR := Lib.hid (AQ.out.later br)
       have VR := Lib.hid (VQ.out.later br)
       have NR := Lib.hid (NP.out.later br)
       have XY := Lib.hid vy
       have NS := Lib.hid (newBox WR vy.len)
       have TS := Lib.hid (newBelow WR ys)
       have HS := Lib.hid (newThere WR vy.len)
       clear br vy)
    | (refine wpList_store_mid rfl 30 (.tmp 11) (.tmp 44) rfl WR.heap.size 0 ys.toArray rfl rfl HS.out XY.out.infoA (all_oneCell_toArray XY.out.one) ?_
       simp only [List.toList_toArray]
       obtain ⟨WS, hWS⟩ : ∃ WS, (WR.alloc (.cells #[Value.int .u32 0, Value.int .u32 0, Value.int .u32 0, Value.int .u32 0, Value.int .u32 0, Value.int .u32 0, Value.int .u32 0, Value.int .u32 0, Value.int .u32 0, Value.int .u32 0, Value.int .u32 0, Value.int .u32 0, Value.int .u32 0, Value.int .u32 0, Value.int .u32 0, Value.int .u32 0, Value.int .u32 0, Value.int .u32 0, Value.int .u32 0, Value.int .u32 0, Value.int .u32 0, Value.int .u32 0, Value.int .u32 0, Value.int .u32 0, Value.int .u32 0, Value.int .u32 0, Value.int .u32 0, Value.int .u32 0, Value.int .u32 0, .slice none 0 0, .bool false, .int .i64 0, .slice none 0 0] 30)).setCells WR.heap.size 0 ys = WS := ⟨_, rfl⟩
       rw [hWS] at NS TS
       simp only [hWS]
       have AS := Lib.hid (AR.out.later TS.out)
       have VS := Lib.hid (VR.out.later TS.out)
       have VT := Lib.hid (XY.out.later TS.out)
       have NT := Lib.hid (NR.out.later TS.out)
       clear hWS))
  have r1 : (a1.toList == a1.toList) = true := beq_self_eq_true _
  go_wp2_with (first
    | (refine wpList_load_midG rfl 30 (.tmp 9) rfl WP.heap.size 0 rfl xs _ NT.out.range Tryd.underlying30 rfl XX.out.info ?_)
    | (refine wpList_load_midG rfl 30 (.tmp 11) rfl WR.heap.size 0 rfl ys _ NS.out.range Tryd.underlying30 rfl XY.out.info ?_)
    | (go_at_call 12; with_reducible refine (SM.out xs ys WS VS.out VT.out).mono ?_; rintro e WU ⟨rfl, bu⟩; have AU := Lib.hid (AS.out.later bu); clear bu))
  go_ret
  exact ⟨rfl, AU.out.below⟩
/-- gaolerlaw28.ReportMatchesReference. -/
theorem law3 (cs : List Value) (v : Vp) (l : List UInt8) (w : World) (hE : Env w) (hv : VC w cs v) :
    Calls Tryd.prog 3 #[.agg cs.toArray, .string ⟨l.toArray⟩] w fun e w' => e = .returned (.bool true) ∧ Below w.heap.size w w' := by
  cases f1 : fewV v with
  | false => exact law3_out cs v l w hE hv (.inl f1)
  | true =>
    by_cases h3 : 2000 < l.length
    · exact law3_out cs v l w hE hv (.inr ⟨f1, h3⟩)
    · exact law3_main cs v l w hE hv f1 (by omega)
theorem law3s (cs : List Value) (v : Vp) (s : ByteArray) (w : World) (hE : Env w) (hv : VC w cs v) :
    Calls Tryd.prog 3 #[.agg cs.toArray, .string s] w fun e w' => e = .returned (.bool true) ∧ Below w.heap.size w w' := by
  have h := law3 cs v s.data.toList w hE hv
  have e : (⟨s.data.toList.toArray⟩ : ByteArray) = s := by cases s; simp
  rw [e] at h
  exact h
end Go.Proofs.YtnfkimhhgflfjaaDoor.Rep
