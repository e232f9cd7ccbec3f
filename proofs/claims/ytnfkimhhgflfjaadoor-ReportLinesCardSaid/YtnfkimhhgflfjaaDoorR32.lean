/- gaolerlaw28.ReportLines, walked. -/
import Derived.Test.YtnfkimhhgflfjaaDoorRw
namespace Go.Proofs.YtnfkimhhgflfjaaDoor.Rep
open Go Go.RowKit Go.Shelf
set_option linter.unusedVariables false
set_option linter.unusedSimpArgs false
/-! ### gaolerlaw28.ReportLines, walked: the lines counted -/
theorem text_last (v : Vp) : ∃ l : List UInt8, textL v = l ++ [10] := by
  obtain ⟨xs, x, _, _, h⟩ := text_end v
  exact ⟨_, h⟩
theorem count_step (l : List UInt8) (k : Nat) (x : UInt8) (h : l[k]? = some x) : (l.take (k + 1)).count 10 = (l.take k).count 10 + (if x = 10 then 1 else 0) := by
  rw [List.take_add_one, h, Option.toList_some, List.count_append, List.count_singleton]
  by_cases e : x = 10
  · subst e; simp
  · simp [e]
set_option maxRecDepth 100000 in
set_option maxHeartbeats 8000000 in
theorem law5_main (cs : List Value) (v x : Vp) (w : World) (hE : Env w) (hv : VC w cs v) (hx : x.wf) (f1 : fewV v = true) (hf : fOk v = true) :
    Calls Tryd.prog 5 #[.agg cs.toArray, .agg (coreC x).toArray] w fun e w' => e = .returned (.bool true) ∧ Below w.heap.size w w' := by
  obtain ⟨W1, hW1⟩ : ∃ W1, (w.alloc (.cells cs.toArray 30)).alloc (.cells (coreC x).toArray 26) = W1 := ⟨_, rfl⟩
  have A1 := Lib.hid (l5_start w hE cs v x hv hW1)
  have hpl := fOk_parts hf
  have hvok : vOk v = true := by unfold fOk at hf; exact (Bool.and_eq_true _ _ ▸ hf).1
  obtain ⟨dc, hdc⟩ : ∃ d, coreC x = d := ⟨_, rfl⟩
  rw [hdc] at hW1 ⊢
  have HDC := Lib.hid hdc
  have X1 := Lib.hid hW1
  have F1 : Hid (∀ W, VC W cs v → Calls Tryd.prog 7 #[.agg cs.toArray] W fun e w' => e = .returned (.bool true) ∧ Below W.heap.size W w') := Lib.hid (fun W h => by have := few_any cs v W h; rw [f1] at this; exact this)
  have F3 : Hid (∀ W, VC W cs v → Calls Tryd.prog 14 #[.agg cs.toArray] W fun e w' => e = .returned (.bool true) ∧ Below W.heap.size W w') := Lib.hid (fun W h => by have := form_any cs v W h (few_len f1).2; rw [hvok] at this; exact this)
  obtain ⟨txt, htxt⟩ : ∃ t, textL v = t := ⟨_, rfl⟩
  obtain ⟨T, hT⟩ : ∃ T : ByteArray, ⟨txt.toArray⟩ = T := ⟨_, rfl⟩
  have M1 : Hid (∀ W, Env W → VC W cs v → Calls Tryd.prog 8 #[.agg cs.toArray] W fun e w' => e = .returned (.tuple #[.string T, .int .i64 0]) ∧ Below W.heap.size W w') := Lib.hid (fun W hE h => by
    have := format_any cs v W hE h (few_len f1).1 (few_len f1).2
    unfold fmtS fmtE at this
    rw [if_pos hf, if_pos hf, htxt, hT] at this
    exact this)
  obtain ⟨dn, hdn⟩ : ∃ d, v.done = d := ⟨_, rfl⟩
  have HD : Hid (∀ W, L5 w cs v x W → W.cell? ⟨w.heap.size, 31, none⟩ = some (.int .i64 dn)) := Lib.hid (fun W h => by rw [h.done, hdn])
  have q1 : decide ((1099511627776 : Int) < dn) = false := decide_eq_false (by have := hpl.2.2; omega)
  have hlen : txt.length < 1000000 := by rw [← htxt]; exact text_len hf hv.wf f1
  have hcnt : txt.count 10 = v.log.length + 1 := by rw [← htxt]; exact text_count v
  obtain ⟨l0, hl0⟩ := text_last v
  rw [htxt] at hl0
  have hget : Hid (∀ (k : Nat) (c : UInt8), txt[k]? = some c → T[k]? = some c) := Lib.hid (fun k c h => by rw [← hT]; exact ba_get txt k c h)
  obtain ⟨n, hn⟩ : ∃ n, txt.length = n := ⟨_, rfl⟩
  have hsz : T.size = n := by rw [← hT, ← hn]; exact List.size_toArray
  have HN := Lib.hid hn
  rw [hn] at hlen
  have HC := Lib.hid hcnt
  have HL := Lib.hid hl0
  have HTX := Lib.hid htxt
  have HT := Lib.hid hT
  have HF := Lib.hid hf
  have HV := Lib.hid hv.wf
  have HX := Lib.hid hx
  have BL := Lib.hid (few_len f1)
  clear hW1 hE hv hdc hdn hpl hvok hf f1 htxt hT hn hcnt hl0 hx
  go_enter Tryd.func5, Tryd.ntmps5
  go_upto_region 1 with (fail)
  simp only [X1.out]
  go_upto_region 3 with (first
    | (go_at_call 6; with_reducible refine (awake_any W1 A1.out.env).mono ?_; rintro e W2 ⟨rfl, b2⟩; have A2 := Lib.hid (A1.out.later b2); clear b2)
    | (refine wpList_load_midG rfl 30 (.tmp 2) rfl w.heap.size 0 rfl cs _ A2.out.rA Tryd.underlying30 rfl A2.out.vA.info ?_)
    | (go_at_call 7; with_reducible refine (F1.out W2 A2.out.vA).mono ?_; rintro e W3 ⟨rfl, b3⟩; have A3 := Lib.hid (A2.out.later b3); clear b3)
    | (refine wpList_load_midG rfl 30 (.tmp 2) rfl w.heap.size 0 rfl cs _ A3.out.rA Tryd.underlying30 rfl A3.out.vA.info ?_)
    | (go_at_call 14; with_reducible refine (F3.out W3 A3.out.vA).mono ?_; rintro e W4 ⟨rfl, b4⟩; have A4 := Lib.hid (A3.out.later b4); have c31 := HD.out W4 A4.out; clear b4))
  go_wp2_with (first
    | (refine wpList_load_mid rfl 30 (.tmp 2) rfl w.heap.size 0 rfl cs _ A4.out.rA Tryd.underlying30 rfl A4.out.vA.info ?_)
    | (go_at_call 8; with_reducible refine (M1.out W4 A4.out.env A4.out.vA).mono ?_; rintro e W5 ⟨rfl, b5⟩; have A5 := Lib.hid (A4.out.later b5); clear b5 c31))
  go_loopw [7, 8] (fun vl vi wr => ∃ k : Nat, k ≤ n ∧ vi = .int .i64 (k : Int) ∧ vl = .int .i64 (((txt.take k).count 10 : Nat) : Int) ∧ wr = W5) (fun _ vi _ => n - (intOf vi).toNat)
  case atStart => exact ⟨0, by omega, rfl, rfl, rfl⟩
  case round =>
    obtain ⟨k, hk, rfl, rfl, rfl⟩ := hrel
    by_cases hkn : k < n
    · obtain ⟨c, hc⟩ : ∃ c, txt[k]? = some c := ⟨txt[k]'(by have := HN.out; omega), List.getElem?_eq_getElem _⟩
      have hlt : k < T.size := by omega
      have g1 : T[k]'hlt = c := Option.some.inj ((getElem?_pos T k hlt).symm.trans (hget.out k c hc))
      have hst := count_step txt k c hc
      have hle : (txt.take k).count 10 ≤ k := Nat.le_trans List.count_le_length (by rw [List.length_take]; omega)
      obtain ⟨m, hm⟩ : ∃ m, (txt.take k).count 10 = m := ⟨_, rfl⟩
      rw [hm] at hst hle
      simp only [hm]
      have q2 : (k : Int) < (n : Int) := by omega
      have q3 : (0 : Int) ≤ (k : Int) := by omega
      have r1 : IntKind.i64.wrap ((k : Int) + 1) = (k : Int) + 1 := by rw [IntKind.wrap_i64]; omega
      have r2 : IntKind.i64.wrap ((m : Int) + 1) = (m : Int) + 1 := by rw [IntKind.wrap_i64]; omega
      clear hc hm
      by_cases he : c = 10
      · rw [if_pos he] at hst
        have e1 : ((c.toNat : Int) == 10) = true := by subst he; rfl
        have HS := Lib.hid hst
        clear hst he
        go_wp2
        go_roundw
        case rel => exact ⟨k + 1, by omega, by go_num, by rw [HS.out]; go_num, trivial⟩
        case measure => simp [intOf]; omega
      · rw [if_neg he] at hst
        have e1 : ((c.toNat : Int) == 10) = false := by
          rw [beq_eq_false_iff_ne]
          intro e
          exact he (UInt8.toNat_inj.1 (by show c.toNat = 10; omega))
        have HS := Lib.hid hst
        clear hst he
        go_wp2
        go_roundw
        case rel => exact ⟨k + 1, by omega, by go_num, by rw [HS.out]; rfl, trivial⟩
        case measure => simp [intOf]; omega
    · obtain rfl : k = n := by omega
      have hct : (txt.take k).count 10 = v.log.length + 1 := by rw [List.take_of_length_le (by rw [HN.out]; exact Nat.le_refl _)]; exact HC.out
      obtain ⟨N, hNl⟩ : ∃ N, v.log.length = N := ⟨_, rfl⟩
      have hN6 : N ≤ 1000000 := by rw [← hNl]; exact BL.out.2
      rw [hNl] at hct
      simp only [hct]
      obtain ⟨k', rfl⟩ : ∃ k', k = k' + 1 := ⟨k - 1, by have h1 := HN.out; have h2 := HL.out; rw [h2, List.length_append, List.length_singleton] at h1; omega⟩
      have hlt : k' < T.size := by omega
      have hc : txt[k']? = some 10 := by
        have h1 := HN.out
        have h2 := HL.out
        rw [h2, List.length_append, List.length_singleton] at h1
        rw [h2, List.getElem?_append_right (by omega), show k' - l0.length = 0 by omega]
        rfl
      have g1 : T[k']'hlt = 10 := Option.some.inj ((getElem?_pos T k' hlt).symm.trans (hget.out k' 10 hc))
      obtain ⟨p, c, q, d, hcs, hby, hev⟩ := A5.out.vA.cells
      have c32 : wr.cell? ⟨w.heap.size, 32, none⟩ = some (.slice q N d) := by
        have := A5.out.rA 32 (.slice q N d) (by rw [hcs, ← hNl]; exact vcs_end HV.out p c q d 3)
        simpa using this
      have q2 : (0 : Int) ≤ (k' : Int) := by omega
      have q3 : (k' : Int) < (k' : Int) + 1 := by omega
      have r1 : IntKind.i64.wrap ((N : Int) + 1) = (N : Int) + 1 := by rw [IntKind.wrap_i64]; omega
      have r2 : IntKind.i64.wrap ((k' : Int)) = (k' : Int) := by rw [IntKind.wrap_i64]; omega
      have r3 : IntKind.i64.wrap ((k' : Int) + 1 - 1) = (k' : Int) := by rw [IntKind.wrap_i64]; omega
      have r4 : ((N : Int) + 1 == (N : Int) + 1) = true := beq_self_eq_true _
      have P10 : Hid (∀ W, Env W → Calls Tryd.prog 10 #[.string (T.extract 0 k')] W fun e w' => ∃ zs, VC w' zs zeroV ∧ e = .returned (.tuple #[.agg zs.toArray, .int .i64 2]) ∧ Below W.heap.size W w') := Lib.hid (fun W hE => by
        have h1 := HN.out
        have h2 := HL.out
        rw [h2, List.length_append, List.length_singleton] at h1
        have hex : T.extract 0 k' = ⟨l0.toArray⟩ := by
          apply ByteArray.ext
          apply Array.ext'
          rw [Lib.extract_from_zero, ← HT.out]
          show txt.take k' = l0
          rw [h2]
          exact List.take_left' (by omega)
        have hbad : okS l0 = false := by
          have := cut_bad v
          rw [HTX.out, h2, List.dropLast_concat] at this
          exact this
        rw [hex]
        have h := parse_any l0 (by omega) W hE
        rw [hbad] at h
        exact h.mono fun e w' ⟨hb, ds, hv, he⟩ => ⟨ds, hv, he, hb⟩)
      -- the worlds of the stores
      have wv := HV.out
      have wx := HX.out
      obtain ⟨b, hb⟩ : ∃ b, wr.heap.size = b := ⟨_, rfl⟩
      have hlc : cs.length = 33 := A5.out.vA.len
      obtain ⟨W6, hW6⟩ : ∃ W6, (wr.alloc (.cells #[Value.int .u32 0, Value.int .u32 0, Value.int .u32 0, Value.int .u32 0, Value.int .u32 0, Value.int .u32 0, Value.int .u32 0, Value.int .u32 0, Value.int .u32 0, Value.int .u32 0, Value.int .u32 0, Value.int .u32 0, Value.int .u32 0, Value.int .u32 0, Value.int .u32 0, Value.int .u32 0, Value.int .u32 0, Value.int .u32 0, Value.int .u32 0, Value.int .u32 0, Value.int .u32 0, Value.int .u32 0, Value.int .u32 0, Value.int .u32 0, Value.int .u32 0, Value.int .u32 0, Value.int .u32 0, Value.int .u32 0, Value.int .u32 0, .slice none 0 0, .bool false, .int .i64 0, .slice none 0 0] 30)).setCells wr.heap.size 0 cs = W6 := ⟨_, rfl⟩
      have V6 : VBox W6 b cs := by rw [← hb, ← hW6]; exact newBox wr hlc
      have B6 : Below b wr W6 := by rw [← hb, ← hW6]; exact newBelow wr cs
      obtain ⟨rc, hrc⟩ : ∃ rc, x.regs.map (Value.int .u32) = rc := ⟨_, rfl⟩
      obtain ⟨cc, hcc⟩ : ∃ cc, x.csr.map (Value.int .u32) = cc := ⟨_, rfl⟩
      have hrl : rc.length = 16 := by rw [← hrc, List.length_map, wx.regs]
      have hcl : cc.length = 12 := by rw [← hcc, List.length_map, wx.csr]
      obtain ⟨W7, hW7⟩ : ∃ W7, W6.setCells b 0 rc = W7 := ⟨_, rfl⟩
      have V7 : VBox W7 b (putL cs 0 rc) := hW7 ▸ V6.part rc 0 hlc (by omega)
      have B7 : Below b wr W7 := hW7 ▸ below_cells' (Nat.le_refl b) rc 0 W6 B6
      obtain ⟨W8, hW8⟩ : ∃ W8, W7.setCell ⟨b, 0, none⟩ (.int .u32 0) = W8 := ⟨_, rfl⟩
      have V8 : VBox W8 b ((putL cs 0 rc).set 0 (.int .u32 0)) := hW8 ▸ V7.set (by rw [putL_len]; exact hlc) 0 (by omega) _
      have B8 : Below b wr W8 := hW8 ▸ B7.setCell (p := ⟨b, 0, none⟩) (Nat.le_refl b) _
      obtain ⟨W9, hW9⟩ : ∃ W9, W8.setCells b 17 cc = W9 := ⟨_, rfl⟩
      have V9 : VBox W9 b (putL ((putL cs 0 rc).set 0 (.int .u32 0)) 17 cc) := hW9 ▸ V8.part cc 17 (by rw [List.length_set, putL_len]; exact hlc) (by omega)
      have B9 : Below b wr W9 := hW9 ▸ below_cells' (Nat.le_refl b) cc 17 W8 B8
      obtain ⟨W10, hW10⟩ : ∃ W10, W9.setCell ⟨b, 24, none⟩ (.int .u32 0) = W10 := ⟨_, rfl⟩
      have V10 := V9.set (by rw [putL_len, List.length_set, putL_len]; exact hlc) 24 (by omega) (.int .u32 0)
      rw [hW10] at V10
      have B10 : Below b wr W10 := hW10 ▸ B9.setCell (p := ⟨b, 24, none⟩) (Nat.le_refl b) _
      obtain ⟨W11, hW11⟩ : ∃ W11, W10.setCell ⟨b, 25, none⟩ (.int .u32 0) = W11 := ⟨_, rfl⟩
      have V11 := V10.set (by rw [List.length_set, putL_len, List.length_set, putL_len]; exact hlc) 25 (by omega) (.int .u32 0)
      rw [hW11, hcs, ← hrc, ← hcc, mix_cells wv wx p c q d] at V11
      have B11 : Below b wr W11 := hW11 ▸ B10.setCell (p := ⟨b, 25, none⟩) (Nat.le_refl b) _
      have A11 := Lib.hid (A5.out.later (hb ▸ B11))
      have VM : Hid (VC W11 (vcs (mixV v x) p c q d) (mixV v x)) := Lib.hid (VC.new (v := mixV v x) hby hev (mixV_wf wv wx) (hb ▸ B11) rfl)
      have R11 := Lib.hid V11
      obtain ⟨es, hes⟩ : ∃ es, vcs (mixV v x) p c q d = es := ⟨_, rfl⟩
      rw [hes] at VM R11
      have M2 : Hid (Calls Tryd.prog 8 #[.agg es.toArray] W11 fun e w' => e = .returned (.tuple #[.string T, .int .i64 0]) ∧ Below W11.heap.size W11 w') := Lib.hid (by
        have := format_any es (mixV v x) W11 A11.out.env VM.out BL.out.1 BL.out.2
        unfold fmtS fmtE at this
        rw [if_pos (mixV_ok wx HF.out), if_pos (mixV_ok wx HF.out), mixV_text, HTX.out, HT.out] at this
        exact this)
      have rB6 : W6.rangeAt (w.heap.size + 1) 0 (coreC x) := (A5.out.later (hb ▸ B6)).rB
      have rB8 : W8.rangeAt (w.heap.size + 1) 0 (coreC x) := (A5.out.later (hb ▸ B8)).rB
      have rc6 : Hid (W6.rangeAt (w.heap.size + 1) 0 rc) := Lib.hid (fun j u hj => rB6 j u (by rw [← hrc] at hj; unfold coreC; rw [List.getElem?_append_left (List.getElem?_eq_some_iff.1 hj).1]; exact hj))
      have rc8 : Hid (W8.rangeAt (w.heap.size + 1) 17 cc) := Lib.hid (fun j u hj => by
        have := rB8 (17 + j) u (by
          rw [← hcc] at hj
          unfold coreC
          rw [List.getElem?_append_right (by rw [List.length_map, wx.regs]; omega), List.length_map, wx.regs, show 17 + j - 16 = j + 1 by omega, List.getElem?_cons_succ]
          exact hj)
        rwa [Nat.zero_add] at this)
      have t6 : Hid (W6.there b 0 rc.toArray.size) := Lib.hid (fun j hj => V6.there j (by rw [List.size_toArray, hrl] at hj; omega))
      have t8 : Hid (W8.there b 17 cc.toArray.size) := Lib.hid (fun j hj => by
        have := V8.there (17 + j) (by rw [List.size_toArray, hcl] at hj; omega)
        rwa [Nat.zero_add] at this)
      have irc : Hid ((Tryd.prog.info? 23).map (·.size) = some rc.length) := Lib.hid (by rw [hrl]; kernel_rfl)
      have icc : Hid ((Tryd.prog.info? 24).map (·.size) = some cc.length) := Lib.hid (by rw [hcl]; kernel_rfl)
      have orc : Hid (rc.toArray.all (·.oneCell') = true) := Lib.hid (all_oneCell_toArray (fun u hu => by rw [← hrc] at hu; obtain ⟨z, _, rfl⟩ := List.mem_map.1 hu; rfl))
      have occ : Hid (cc.toArray.all (·.oneCell') = true) := Lib.hid (all_oneCell_toArray (fun u hu => by rw [← hcc] at hu; obtain ⟨z, _, rfl⟩ := List.mem_map.1 hu; rfl))
      have H6 : Hid (∀ g, g = b → (wr.alloc (.cells #[Value.int .u32 0, Value.int .u32 0, Value.int .u32 0, Value.int .u32 0, Value.int .u32 0, Value.int .u32 0, Value.int .u32 0, Value.int .u32 0, Value.int .u32 0, Value.int .u32 0, Value.int .u32 0, Value.int .u32 0, Value.int .u32 0, Value.int .u32 0, Value.int .u32 0, Value.int .u32 0, Value.int .u32 0, Value.int .u32 0, Value.int .u32 0, Value.int .u32 0, Value.int .u32 0, Value.int .u32 0, Value.int .u32 0, Value.int .u32 0, Value.int .u32 0, Value.int .u32 0, Value.int .u32 0, Value.int .u32 0, Value.int .u32 0, .slice none 0 0, .bool false, .int .i64 0, .slice none 0 0] 30)).there g 0 cs.toArray.size) := Lib.hid (fun g e => by rw [e, ← hb]; exact newThere wr hlc)
      obtain ⟨u0, c0⟩ := Option.isSome_iff_exists.1 (V7.there 0 (by omega)).1
      obtain ⟨u1, c24⟩ := Option.isSome_iff_exists.1 (V9.there 24 (by omega)).1
      obtain ⟨u2, c25⟩ := Option.isSome_iff_exists.1 (V10.there 25 (by omega)).1
      have f0 := (V7.there 0 (by omega)).2
      have f24 := (V9.there 24 (by omega)).2
      have f25 := (V10.there 25 (by omega)).2
      rw [Nat.zero_add] at c24 c25 f24 f25
      rw [hb] at hW6
      have Y6 := Lib.hid hW6
      have Y7 := Lib.hid hW7
      have Y8 := Lib.hid hW8
      have Y9 := Lib.hid hW9
      have Y10 := Lib.hid hW10
      have Y11 := Lib.hid hW11
      have Ies := Lib.hid VM.out.info
      have A5i := Lib.hid A5.out.vA
      clear hcs hc hct hNl hby hev wv wx V6 B6 hrc hcc V7 B7 V8 B8 V9 B9 V10 B10 V11 B11 hW6 hW7 hW8 hW9 hW10 hW11 hes rB6 rB8 hrl hcl hlc
      go_upto_region 13 with (first
        | (refine wpList_load_mid rfl 30 (.tmp 2) rfl w.heap.size 0 rfl cs _ A5.out.rA Tryd.underlying30 rfl A5.out.vA.info ?_)
        | (refine wpList_store_mid rfl 30 (.tmp 9) (.tmp 67) rfl b 0 cs.toArray (by rw [← hb]; rfl) rfl (H6.out _ rfl) A5i.out.infoA (all_oneCell_toArray A5i.out.one) ?_; simp only [hb, List.toList_toArray, Y6.out]))
      clear Y6 H6 hb
      go_upto_region 14 with (first
        | (refine wpList_load_mid rfl 23 (.tmp 68) rfl (w.heap.size + 1) 0 rfl rc _ rc6.out Tryd.underlying23 rfl irc.out ?_)
        | (refine wpList_store_mid rfl 23 (.tmp 71) (.tmp 69) rfl b 0 rc.toArray rfl rfl t6.out irc.out orc.out ?_; simp only [List.toList_toArray, Y7.out]))
      go_upto_region 15 with (fail)
      simp only [Y8.out]
      go_upto_region 16 with (first
        | (refine wpList_load_mid rfl 24 (.tmp 75) rfl (w.heap.size + 1) 17 rfl cc _ rc8.out Tryd.underlying24 rfl icc.out ?_)
        | (refine wpList_store_mid rfl 24 (.tmp 78) (.tmp 76) rfl b 17 cc.toArray rfl rfl t8.out icc.out occ.out ?_; simp only [List.toList_toArray, Y9.out]))
      go_upto_region 17 with (fail)
      simp only [Y10.out]
      go_upto_region 18 with (fail)
      simp only [Y11.out]
      clear c0 c24 c25 f0 f24 f25
      go_upto_region 19 with (first
        | (refine wpList_load_mid rfl 30 (.tmp 9) rfl b 0 rfl es _ R11.out.range Tryd.underlying30 rfl Ies.out ?_)
        | (go_at_call 8; with_reducible refine M2.out.mono ?_; rintro e W12 ⟨rfl, b12⟩; have A12 := Lib.hid (A11.out.later b12); clear b12))
      clear R11 VM M2 Y7 Y8 Y9 Y10 Y11 rc6 rc8 t6 t8 irc icc orc occ Ies
      go_upto_region 20 with (first
        | (go_at_call 10; with_reducible refine (P10.out _ A12.out.env).mono ?_; rintro e W13 ⟨zs, vz, rfl, b13⟩
           have A13 := Lib.hid (A12.out.later b13)
           have XZ := Lib.hid vz
           have TZ := Lib.hid (newBelow W13 zs)
           have HZ := Lib.hid (newThere W13 vz.len)
           clear b13 vz)
        | (refine wpList_store_mid rfl 30 (.tmp 12) (.tmp 97) rfl W13.heap.size 0 zs.toArray rfl rfl HZ.out XZ.out.infoA (all_oneCell_toArray XZ.out.one) ?_
           simp only [List.toList_toArray]
           obtain ⟨W14, hW14⟩ : ∃ W14, (W13.alloc (.cells #[Value.int .u32 0, Value.int .u32 0, Value.int .u32 0, Value.int .u32 0, Value.int .u32 0, Value.int .u32 0, Value.int .u32 0, Value.int .u32 0, Value.int .u32 0, Value.int .u32 0, Value.int .u32 0, Value.int .u32 0, Value.int .u32 0, Value.int .u32 0, Value.int .u32 0, Value.int .u32 0, Value.int .u32 0, Value.int .u32 0, Value.int .u32 0, Value.int .u32 0, Value.int .u32 0, Value.int .u32 0, Value.int .u32 0, Value.int .u32 0, Value.int .u32 0, Value.int .u32 0, Value.int .u32 0, Value.int .u32 0, Value.int .u32 0, .slice none 0 0, .bool false, .int .i64 0, .slice none 0 0] 30)).setCells W13.heap.size 0 zs = W14 := ⟨_, rfl⟩
           rw [hW14] at TZ
           simp only [hW14]
           have A14 := Lib.hid (A13.out.later TZ.out)
           clear hW14))
      have rr : (T.toList == T.toList) = true := beq_self_eq_true _
      go_wp2
      go_ret
      exact ⟨rfl, A14.out.below⟩
end Go.Proofs.YtnfkimhhgflfjaaDoor.Rep
