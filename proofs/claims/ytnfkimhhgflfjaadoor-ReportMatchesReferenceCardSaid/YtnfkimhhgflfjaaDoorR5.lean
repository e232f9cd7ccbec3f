/- report.Format, walked where it answers with a text. -/
import Derived.Test.YtnfkimhhgflfjaaDoorR4
namespace Go.Proofs.YtnfkimhhgflfjaaDoor.Rep
open Go Go.RowKit
set_option linter.unusedVariables false
set_option linter.unusedSimpArgs false
/-- A round's cells: the box of the event, the event's name. -/
abbrev eS (W : World) (v : Vp) (p : Option Addr) (c : Nat) (q : Option Addr) (d : Nat) (x kn pn tn : Nat) (WD : ByteArray) (w : World) : Prop :=
  w.cell? ⟨x, 0, none⟩ = some (.int .i64 (kn : Int)) ∧ w.cell? ⟨x, 1, none⟩ = some (.int .i64 (pn : Int)) ∧ w.cell? ⟨x, 2, none⟩ = some (.int .u64 (tn : Int)) ∧ w.cell? ⟨0, kn, none⟩ = some (.string WD) ∧ Hid (FS W v p c q d w ∧ x < w.heap.size)
theorem eS.start {W : World} {v : Vp} {p : Option Addr} {c : Nat} {q : Option Addr} {d : Nat} {w : World} (h : FS W v p c q d w) (kn pn tn : Nat) (WD : ByteArray) (hw : w.cell? ⟨0, kn, none⟩ = some (.string WD)) : eS W v p c q d w.heap.size kn pn tn WD (w.alloc (.cells (ecl ⟨(kn : Int), (pn : Int), (tn : Int)⟩).toArray 49)) :=
  ⟨World.cell?_alloc_new _ _ _ _, World.cell?_alloc_new _ _ _ _, World.cell?_alloc_new _ _ _ _, (World.cell?_alloc_lt _ _ ⟨0, kn, none⟩ (by show 0 < w.heap.size; have := h.env.size; omega)).trans hw, h.alloc _, by simp⟩
theorem eS.later {W : World} {v : Vp} {p : Option Addr} {c : Nat} {q : Option Addr} {d : Nat} {x kn pn tn : Nat} {WD : ByteArray} {w w' : World} (h : eS W v p c q d x kn pn tn WD w) (hb : Below w.heap.size w w') : eS W v p c q d x kn pn tn WD w' := by
  obtain ⟨h1, h2, h3, h4, hF, hx⟩ := h
  exact ⟨(hb.cell (p := ⟨x, 0, none⟩) hx).trans h1, (hb.cell (p := ⟨x, 1, none⟩) hx).trans h2, (hb.cell (p := ⟨x, 2, none⟩) hx).trans h3, (hb.cell (p := ⟨0, kn, none⟩) (by show 0 < w.heap.size; have := hF.env.size; omega)).trans h4, hF.later hb, Nat.lt_of_lt_of_le hx hb.size⟩
theorem FS.of5 {W : World} {v : Vp} {p : Option Addr} {c : Nat} {q : Option Addr} {d : Nat} {a b e f g : Prop} {w : World} (h : a ∧ b ∧ e ∧ f ∧ Hid (FS W v p c q d w ∧ g)) : FS W v p c q d w := h.2.2.2.2.1
theorem FS.env5 {W : World} {v : Vp} {p : Option Addr} {c : Nat} {q : Option Addr} {d : Nat} {a b e f g : Prop} {w : World} (h : a ∧ b ∧ e ∧ f ∧ Hid (FS W v p c q d w ∧ g)) : Env w := h.2.2.2.2.1.env
theorem words_len (k : Nat) : (wordsL.getD k []).length ≤ 5 := by
  match k with
  | 0 => decide
  | 1 => decide
  | 2 => decide
  | 3 => decide
  | k + 4 => simp [wordsL]
theorem howS_len (h : Bool) : (howS h).length ≤ 7 := by cases h <;> simp [howS]
theorem FS.of {W : World} {v : Vp} {p : Option Addr} {c : Nat} {q : Option Addr} {d : Nat} {a b e : Prop} {w : World} (h : a ∧ b ∧ e ∧ Hid (FS W v p c q d w)) : FS W v p c q d w := h.2.2.2
set_option maxRecDepth 100000 in
set_option maxHeartbeats 16000000 in
theorem format_ok (v : Vp) (p : Option Addr) (c : Nat) (q : Option Addr) (d : Nat) (W : World) (hE : Env W) (hw : v.wf) (hp : Bytes W p v.out) (hq : Evs W q v.log) (ho : v.out.length ≤ 1000000) (hl : v.log.length ≤ 1000000) (hb : fOk v = true) :
    Calls Tryd.prog 8 #[.agg (vcs v p c q d).toArray] W fun e w' => e = .returned (.tuple #[.string ⟨(textL v).toArray⟩, .int .i64 0]) ∧ Below W.heap.size W w' := by
  have F0 := Lib.hid (FS.start (c := c) (d := d) hE hp hq)
  have hvo : vOk v = true := by unfold fOk at hb; exact (Bool.and_eq_true _ _ ▸ hb).1
  have hmost : v.done ≤ 1099511627776 := by unfold fOk at hb; exact of_decide_eq_true (Bool.and_eq_true _ _ ▸ hb).2
  have hvl : Hid (∀ e ∈ v.log, 1 ≤ e.kind ∧ e.kind ≤ 3 ∧ -1 < e.pos ∧ e.pos < v.done) := Lib.hid (vldL_all v.log (-1) (by unfold vOk at hvo; exact (Bool.and_eq_true _ _ ▸ hvo).2))
  have hd0 : 0 ≤ v.done := by
    unfold vOk hdOk at hvo
    exact (of_decide_eq_true (Bool.and_eq_true _ _ ▸ hvo).1).2.2.2
  have V := Lib.hid (fun w h => valid_any (vcs v p c q d) v w h hl)
  rw [hvo] at V
  have hVC : Hid (∀ w, FS W v p c q d w → VC w (vcs v p c q d) v) := Lib.hid (fun w h => ⟨hw, p, c, q, d, rfl, h.by', h.ev⟩)
  have hlen := vcs_len hw p c q d
  have hsz : (Tryd.prog.info? 30).map (·.size) = some (vcs v p c q d).toArray.size := by rw [List.size_toArray, hlen]; exact size30
  obtain ⟨dn, hdn⟩ := Int.eq_ofNat_of_zero_le hd0
  obtain ⟨pc, hpc⟩ := Int.eq_ofNat_of_zero_le hw.pc.1
  have hpcw := hw.pc.2
  have HS := Lib.hid (fun w (h : FS W v p c q d w) => FS.hs h hw hdn hpc)
  have hc30 : Hid (∀ w, FS W v p c q d w → w.cell? ⟨W.heap.size, 30, none⟩ = some (.bool v.halted) ∧ w.cell? ⟨W.heap.size, 32, none⟩ = some (.slice q v.log.length d)) := Lib.hid (fun w h => ⟨h.cells 30 _ (vcs_end hw p c q d 1), h.cells 32 _ (vcs_end hw p c q d 3)⟩)
  have hlog : Hid (∀ e ∈ v.log, e.wf) := Lib.hid hw.log
  rw [hdn] at hmost
  rw [hpc] at hpcw
  have N1 := Lib.hid (fun w hE => number_any dn (by omega) w hE)
  have N2 := Lib.hid (fun w hE => number_any pc (by omega) w hE)
  have X := Lib.hid (fun w hp => hex_any v.out ho p c w hp)
  have hL := Lib.hid (fun w => line_new [[103, 117, 101, 115, 116], Lib.decDigits dn, Lib.decDigits pc, howS v.halted, hexS v.out] w (by simp) (by
    rw [join_five]
    have := dec_len dn (by omega)
    have := dec_len pc (by omega)
    have := howS_len v.halted
    have := hexS_len v.out
    simp only [List.length_append, List.length_cons, List.length_nil]
    omega))
  have hhead : Hid (lineS [[103, 117, 101, 115, 116], Lib.decDigits dn, Lib.decDigits pc, howS v.halted, hexS v.out] = lineS (headL v)) := Lib.hid (by unfold headL; rw [hdn, hpc]; rfl)
  rw [hhead.out] at hL
  have hheadlen : Hid ((lineS (headL v)).length ≤ 3000000) := Lib.hid (by
    rw [← hhead.out, lineS_five]
    have := dec_len dn (by omega)
    have := dec_len pc (by omega)
    have := howS_len v.halted
    have := hexS_len v.out
    simp only [List.length_append, List.length_cons, List.length_nil]
    omega)
  obtain ⟨HD, hHD⟩ : ∃ HD, lineS (headL v) = HD := ⟨_, rfl⟩
  have htext : Hid (textL v = HD ++ v.log.flatMap (fun e => lineS (evL e))) := Lib.hid (by rw [← hHD]; rfl)
  rw [htext.out]
  rw [hHD] at hL hheadlen
  simp only [List.map_cons, List.map_nil, List.length_cons, List.length_nil] at hL
  obtain ⟨S1, hS1⟩ : ∃ S : ByteArray, ⟨(Lib.decDigits dn).toArray⟩ = S := ⟨_, rfl⟩
  obtain ⟨S2, hS2⟩ : ∃ S : ByteArray, ⟨(Lib.decDigits pc).toArray⟩ = S := ⟨_, rfl⟩
  obtain ⟨S3, hS3⟩ : ∃ S : ByteArray, ⟨(howS v.halted).toArray⟩ = S := ⟨_, rfl⟩
  obtain ⟨S4, hS4⟩ : ∃ S : ByteArray, ⟨(hexS v.out).toArray⟩ = S := ⟨_, rfl⟩
  rw [hS1] at N1 hL
  rw [hS2] at N2 hL
  rw [hS3] at hL
  rw [hS4] at X hL
  have hwr1 : IntKind.u64.wrap (dn : Int) = (dn : Int) := by rw [IntKind.wrap_u64]; omega
  have hwr2 : IntKind.u64.wrap (pc : Int) = (pc : Int) := by rw [IntKind.wrap_u64]; omega
  clear hE hw hp hq hb hvo hd0 hlen hhead hHD htext hS1 hS2 hS4 ho
  obtain ⟨cs, hcs⟩ : ∃ cs, vcs v p c q d = cs := ⟨_, rfl⟩
  rw [hcs] at V hVC hsz ⊢
  have F0' : Hid (FS W v p c q d (W.alloc (.cells cs.toArray 30))) := by rw [← hcs]; exact F0
  have c31 := fun w h => (HS.out w h).1
  clear hcs F0 c31
  have hnm : decide ((1099511627776 : Int) < (dn : Int)) = false := decide_eq_false (by omega)
  go_enter Tryd.func8, Tryd.ntmps8
  go_wp2_with (refine wpList_load_row rfl 30 (.tmp 1) rfl W.heap.size rfl 30 cs.toArray (0, 0) _ (World.alloc_heap_new _ _) Tryd.underlying30 rfl hsz ?_)
  refine (V.out _ (hVC.out _ F0'.out)).mono ?_
  rintro e w1 ⟨rfl, hb⟩
  have F1 := Lib.hid (F0'.out.later hb)
  obtain ⟨c31, c16, c29, _⟩ := HS.out _ F1.out
  obtain ⟨c30, c32⟩ := hc30.out _ F1.out
  clear hb V F0'
  simp only [Nat.zero_add, Nat.reduceAdd] at hL
  have hvl' : Hid (∀ e ∈ v.log, 1 ≤ e.kind ∧ e.kind ≤ 3 ∧ -1 < e.pos ∧ e.pos < (dn : Int)) := Lib.hid (by rw [← hdn]; exact hvl.out)
  have hcase : (v.halted = false ∧ S3 = ⟨#[114, 117, 110, 110, 105, 110, 103]⟩) ∨ (v.halted = true ∧ S3 = ⟨#[104, 97, 108, 116, 101, 100]⟩) := by
    cases hh : v.halted with
    | false => exact .inl ⟨rfl, by rw [← hS3, hh]; rfl⟩
    | true => exact .inr ⟨rfl, by rw [← hS3, hh]; rfl⟩
  have HDN := Lib.hid hdn
  have HPC := Lib.hid hpc
  clear hS3 hdn hpc hvl
  rcases hcase with ⟨hh, rfl⟩ | ⟨hh, rfl⟩
  all_goals
    rw [hh] at c30
    clear hh
    go_wp2_with fail
    go_region_held3 (fun w' => w'.cell? ⟨W.heap.size, 31, none⟩ = some (.int .i64 (dn : Int)) ∧ w'.cell? ⟨W.heap.size, 16, none⟩ = some (.int .u32 (pc : Int)) ∧ w'.cell? ⟨W.heap.size, 29, none⟩ = some (.slice p v.out.length c) ∧ Hid (FS W v p c q d w'))
      (first | (exact HS.out _ (FS.of (by assumption)).drew) | (exact HS.out _ F1.out.drew) | (exact HS.out _ ((FS.of (by assumption)).later hbc)) | (exact HS.out _ ((FS.of (by assumption)).alloc _)))
      (first
        | (go_at_call_of 18 (Value.int .u64 (dn : Int)); refine (N1.out _ (FS.of (by assumption)).env).mono ?_; rintro e w' ⟨rfl, hbc⟩)
        | (go_at_call_of 18 (Value.int .u64 (pc : Int)); refine (N2.out _ (FS.of (by assumption)).env).mono ?_; rintro e w' ⟨rfl, hbc⟩)
        | (go_at_call 19; refine (X.out _ (FS.of (by assumption)).by').mono ?_; rintro e w' ⟨rfl, hbc⟩)
        | (go_at_call 17; refine (hL.out _).mono ?_; rintro e w' ⟨rfl, hbc⟩))
    have F2 : Hid (FS W v p c q d w') := FS.of (by assumption)
    obtain ⟨e30, e32⟩ := hc30.out _ F2.out
    clear c31 c16 c29 c30 c32 F1 hbc e30
    go_wp2_with fail
    go_loopw [5, 36] (fun s5 vi wr => ∃ (k : Nat) (A : List UInt8), k ≤ v.log.length ∧ vi = .int .i64 (k : Int) ∧ s5 = .string ⟨A.toArray⟩ ∧ Hid (A = HD ++ (v.log.take k).flatMap (fun e => lineS (evL e))) ∧ A.length ≤ 3000000 + 60 * k ∧ Hid (FS W v p c q d wr)) (fun _ vi _ => v.log.length - (intOf vi).toNat)
    case atStart => exact ⟨0, HD, by omega, rfl, rfl, Lib.hid (by simp), by have := hheadlen.out; omega, F2⟩
    case round =>
      obtain ⟨k, A, hk, rfl, rfl, hA, hAl, hF⟩ := hrel
      by_cases hkn : k < v.log.length
      · obtain ⟨e, he⟩ : ∃ e, v.log[k]? = some e := ⟨v.log[k], List.getElem?_eq_getElem hkn⟩
        obtain ⟨a, hqa, hal, hac⟩ := hF.out.ev k e he
        obtain ⟨k1, k2, k3, k4⟩ := hvl'.out e (List.mem_of_getElem? he)
        obtain ⟨_, _, t1, t2⟩ := hlog.out e (List.mem_of_getElem? he)
        have hA2 : Hid (A ++ lineS (evL e) = HD ++ (v.log.take (k + 1)).flatMap (fun e => lineS (evL e))) := Lib.hid (by rw [List.take_add_one, he, Option.toList_some, List.flatMap_append, ← List.append_assoc, ← hA.out]; simp)
        obtain ⟨kd, ps, tm⟩ := e
        dsimp only at k1 k2 k3 k4 t1 t2
        obtain ⟨kn, rfl⟩ := Int.eq_ofNat_of_zero_le (show 0 ≤ kd by omega)
        obtain ⟨pn, rfl⟩ := Int.eq_ofNat_of_zero_le (show 0 ≤ ps by omega)
        obtain ⟨tn, rfl⟩ := Int.eq_ofNat_of_zero_le t1
        subst hqa
        have hsz3 : (Tryd.prog.info? 49).map (·.size) = some (ecl ⟨(kn : Int), (pn : Int), (tn : Int)⟩).length := size49
        have hkn4 : kn < 4 := by omega
        have hT := Lib.hid (fun w => line_new [wordsL.getD kn [], Lib.decDigits pn, Lib.decDigits tn] w (by simp) (by
          rw [join_three]
          have := dec_len pn (by omega)
          have := dec_len tn (by omega)
          have := words_len kn
          simp only [List.length_append, List.length_cons, List.length_nil]
          omega))
        have hTe : lineS (evL ⟨(kn : Int), (pn : Int), (tn : Int)⟩) = lineS [wordsL.getD kn [], Lib.decDigits pn, Lib.decDigits tn] := rfl
        rw [hTe] at hA2
        have hTl : (lineS [wordsL.getD kn [], Lib.decDigits pn, Lib.decDigits tn]).length ≤ 60 := by
          rw [lineS_three]
          have := dec_len pn (by omega)
          have := dec_len tn (by omega)
          have := words_len kn
          simp only [List.length_append, List.length_cons, List.length_nil]
          omega
        obtain ⟨TL, hTL⟩ : ∃ TL, lineS [wordsL.getD kn [], Lib.decDigits pn, Lib.decDigits tn] = TL := ⟨_, rfl⟩
        rw [hTL] at hA2 hTl hT
        simp only [List.map_cons, List.map_nil, List.length_cons, List.length_nil, Nat.zero_add, Nat.reduceAdd] at hT
        have M1 := Lib.hid (fun w hE => number_any pn (by omega) w hE)
        have M2 := Lib.hid (fun w hE => number_any tn (by omega) w hE)
        have hwd := hF.out.env.words kn hkn4
        obtain ⟨WD, hWD⟩ : ∃ S : ByteArray, ⟨(wordsL.getD kn []).toArray⟩ = S := ⟨_, rfl⟩
        obtain ⟨P1, hP1⟩ : ∃ S : ByteArray, ⟨(Lib.decDigits pn).toArray⟩ = S := ⟨_, rfl⟩
        obtain ⟨P2, hP2⟩ : ∃ S : ByteArray, ⟨(Lib.decDigits tn).toArray⟩ = S := ⟨_, rfl⟩
        rw [hWD] at hT hwd
        rw [hP1] at hT M1
        rw [hP2] at hT M2
        have v1 : IntKind.u64.wrap (pn : Int) = (pn : Int) := by rw [IntKind.wrap_u64]; omega
        have B0 := Lib.hid (eS.start hF.out kn pn tn WD hwd)
        have q1 : (k : Int) < (v.log.length : Int) := by omega
        have q2 : (0 : Int) ≤ (k : Int) := by omega
        have q3 : (0 : Int) ≤ (kn : Int) := by omega
        have q4 : (kn : Int) < 4 := by omega
        have hcat : ¬ 9223372036854775807 < A.length + TL.length := by omega
        clear hTL hTe hWD hP1 hP2 he hwd
        go_wp2_with (first
          | (refine wpList_load_at rfl 49 (.tmp 38) rfl (a.add (k * 3)) rfl (ecl ⟨(kn : Int), (pn : Int), (tn : Int)⟩) _ hac Tryd.underlying49 rfl hsz3 ?_)
          | (refine wpList_store_row rfl 49 (.tmp 7) (.tmp 39) rfl wr.heap.size (ecl ⟨(kn : Int), (pn : Int), (tn : Int)⟩).toArray rfl rfl 49 _ (World.alloc_heap_new _ _) size49 rfl (ecl_all _) ?_
             simp only [World.setRow_alloc_new]
             obtain ⟨x, hx⟩ : ∃ x, wr.heap.size = x := ⟨_, rfl⟩
             rw [hx] at B0
             simp only [hx]
             clear hx
             obtain ⟨wb, hwb⟩ : ∃ wb, wr.alloc (.cells (ecl ⟨(kn : Int), (pn : Int), (tn : Int)⟩).toArray 49) = wb := ⟨_, rfl⟩
             rw [hwb] at B0
             simp only [hwb]
             clear hwb))
        go_region_held3 (fun w' => w'.cell? ⟨x, 0, none⟩ = some (.int .i64 (kn : Int)) ∧ w'.cell? ⟨x, 1, none⟩ = some (.int .i64 (pn : Int)) ∧ w'.cell? ⟨x, 2, none⟩ = some (.int .u64 (tn : Int)) ∧ w'.cell? ⟨0, kn, none⟩ = some (.string WD) ∧ Hid (FS W v p c (some a) d w' ∧ x < w'.heap.size))
          (first | (exact eS.later B0.out (Below.refl _ _).drew) | (exact eS.later (W := W) (v := v) (by assumption) hbc) | (exact eS.later (W := W) (v := v) (by assumption) ((Below.refl _ _).alloc (Nat.le_refl _) _)))
          (first
            | (go_at_call_of 18 (Value.int .u64 (pn : Int)); refine (M1.out _ (FS.env5 (by assumption))).mono ?_; rintro e w' ⟨rfl, hbc⟩)
            | (go_at_call_of 18 (Value.int .u64 (tn : Int)); refine (M2.out _ (FS.env5 (by assumption))).mono ?_; rintro e w' ⟨rfl, hbc⟩)
            | (go_at_call 17; refine (hT.out _).mono ?_; rintro e w' ⟨rfl, hbc⟩))
        have F3 : Hid (FS W v p c (some a) d w') := FS.of5 (by assumption)
        clear hbc B0
        go_wp2
        go_roundw
        case rel => exact ⟨k + 1, A ++ TL, by omega, by go_num, congrArg Value.string (cat_bytes A TL), hA2, by rw [List.length_append]; omega, F3⟩
        case measure => simp [intOf]; omega
      · obtain rfl : k = v.log.length := by omega
        have htk : Hid (A = HD ++ v.log.flatMap (fun e => lineS (evL e))) := Lib.hid (by rw [hA.out, List.take_length])
        clear hA
        go_wp2
        go_ret2
        exact ⟨by rw [← htk.out]; rfl, hF.out.below⟩
/-- report.Format. -/
theorem format_any (cs : List Value) (v : Vp) (W : World) (hE : Env W) (h : VC W cs v) (ho : v.out.length ≤ 1000000) (hl : v.log.length ≤ 1000000) :
    Calls Tryd.prog 8 #[.agg cs.toArray] W fun e w' => e = .returned (.tuple #[.string (fmtS v), .int .i64 (fmtE v)]) ∧ Below W.heap.size W w' := by
  obtain ⟨p, c, q, d, rfl, hp, hq⟩ := h.cells
  unfold fmtS fmtE
  cases hb : fOk v with
  | true => rw [if_pos rfl, if_pos rfl]; exact format_ok v p c q d W hE h.wf hp hq ho hl hb
  | false => rw [if_neg (by decide), if_neg (by decide)]; exact format_bad v p c q d W hE h.wf hp hq hl hb
end Go.Proofs.YtnfkimhhgflfjaaDoor.Rep
