/- gaolerref28.Put, walked. -/
import Derived.Test.YtnfkimhhgflfjaaDoorR34
import Derived.Test.YtnfkimhhgflfjaaDoorR20
namespace Go.Proofs.YtnfkimhhgflfjaaDoor.Rep
open Go Go.RowKit Go.Shelf
set_option linter.unusedVariables false
set_option linter.unusedSimpArgs false
/-! ### gaolerref28.Put, walked -/
attribute [local go_sem] conv_go convOf_some conv_two convTwo_some
theorem cell_keep {W w' : World} {a : Addr} {v : Value} (hb : Below W.heap.size W w') (h : W.cell? a = some v) : w'.cell? a = some v := (hb.cell (World.block_lt_of_cell? W a h)).trans h
/-- What holds under a stronger condition holds under the weaker one. -/
theorem anyH_sub {ops : Array Oper} {Q : Exit → Act → World → Prop} {md : Region.Mode} {S S' : World → Prop} (h : ∀ w, S' w → S w) : ∀ (fuel : Nat) (listed : Array Bool) (a : Act) (w : World), wpAnyH Tryd.prog md ops Q S' fuel listed a w → wpAnyH Tryd.prog md ops Q S fuel listed a w
  | 0, _, _, _, H => H
  | fuel + 1, _, _, _, H => ⟨H.1, fun i hi => wpOp_mono (fun _ _ h1 => ⟨h _ h1.1, anyH_sub h fuel _ _ _ h1.2⟩) (H.2 i hi)⟩
theorem head_cat (a b h e : List UInt8) : (((((((⟨#[103, 117, 101, 115, 116, 32]⟩ : ByteArray) ++ ⟨a.toArray⟩) ++ ⟨#[32]⟩) ++ ⟨b.toArray⟩) ++ ⟨(32 :: (h ++ [32])).toArray⟩) ++ ⟨e.toArray⟩) ++ ⟨#[10]⟩) = ⟨(lineS [[103, 117, 101, 115, 116], a, b, h, e]).toArray⟩ := by
  rw [show (⟨#[103, 117, 101, 115, 116, 32]⟩ : ByteArray) = ⟨[103, 117, 101, 115, 116, 32].toArray⟩ from rfl, show (⟨#[32]⟩ : ByteArray) = ⟨[32].toArray⟩ from rfl, show (⟨#[10]⟩ : ByteArray) = ⟨[10].toArray⟩ from rfl]
  simp only [cat_bytes, lineS_five]
  simp
theorem ev_cat (t k a b : List UInt8) : ((((((⟨t.toArray⟩ : ByteArray) ++ ⟨(k ++ [32]).toArray⟩) ++ ⟨a.toArray⟩) ++ ⟨#[32]⟩) ++ ⟨b.toArray⟩) ++ ⟨#[10]⟩) = ⟨(t ++ lineS [k, a, b]).toArray⟩ := by
  rw [show (⟨#[32]⟩ : ByteArray) = ⟨[32].toArray⟩ from rfl, show (⟨#[10]⟩ : ByteArray) = ⟨[10].toArray⟩ from rfl]
  simp only [cat_bytes, lineS_three]
  simp
set_option maxRecDepth 100000 in
set_option maxHeartbeats 8000000 in
theorem put_bad (v : Vp) (p : Option Addr) (c : Nat) (q : Option Addr) (d : Nat) (W : World) (hE : Env W) (hw : v.wf) (hp : Bytes W p v.out) (hq : Evs W q v.log) (hl : v.log.length ≤ 1000000) (hb : fOk v = false) :
    Calls Tryd.prog 9 #[.agg (vcs v p c q d).toArray] W fun e w' => e = .returned (.tuple #[.string .empty, .int .i64 1]) ∧ Below W.heap.size W w' := by
  have F0 := Lib.hid (FS.start (c := c) (d := d) hE hp hq)
  have V := Lib.hid (fun w h => form_any (vcs v p c q d) v w h hl)
  have hVC : Hid (∀ w, FS W v p c q d w → VC w (vcs v p c q d) v) := Lib.hid (fun w h => ⟨hw, p, c, q, d, rfl, h.by', h.ev⟩)
  have h31 : (vcs v p c q d)[31]? = some (.int .i64 v.done) := vcs_end hw p c q d 2
  have hlen := vcs_len hw p c q d
  have hcase : vOk v = false ∨ (vOk v = true ∧ (1099511627776 : Int) < v.done) := by
    unfold fOk at hb
    cases hv : vOk v with
    | false => exact .inl rfl
    | true =>
      rw [hv, Bool.true_and, decide_eq_false_iff_not] at hb
      exact .inr ⟨rfl, by unfold most at hb; omega⟩
  obtain ⟨dn, hdn⟩ : ∃ dn, v.done = dn := ⟨_, rfl⟩
  rw [hdn] at h31 hcase
  obtain ⟨ok, hok⟩ : ∃ ok, vOk v = ok := ⟨_, rfl⟩
  rw [hok] at V hcase
  obtain ⟨cs, hcs⟩ : ∃ cs, vcs v p c q d = cs := ⟨_, rfl⟩
  rw [hcs] at V h31 hlen hVC ⊢
  have F0' : Hid (FS W v p c q d (W.alloc (.cells cs.toArray 30))) := by rw [← hcs]; exact F0
  have hsz : (Tryd.prog.info? 30).map (·.size) = some cs.toArray.size := by rw [List.size_toArray, hlen]; exact size30
  clear hE hw hp hq hl hb hdn hok F0
  have hc31 : Hid (∀ w, FS W v p c q d w → w.cell? ⟨W.heap.size, 31, none⟩ = some (.int .i64 dn)) := Lib.hid (fun w h => h.cells 31 _ (by rw [hcs]; exact h31))
  clear hcs h31 hlen
  rcases hcase with rfl | ⟨rfl, h⟩
  all_goals
    go_enter Tryd.func9, Tryd.ntmps9
    go_wp2_with (refine wpList_load_row rfl 30 (.tmp 1) rfl W.heap.size rfl 30 cs.toArray (0, 0) _ (World.alloc_heap_new _ _) Tryd.underlying30 rfl hsz ?_)
    refine (V.out _ (hVC.out _ F0'.out)).mono ?_
    rintro e w1 ⟨rfl, hb⟩
    have F1 := Lib.hid (F0'.out.later hb)
    have c31 := hc31.out _ F1.out
    clear hb V
    go_wp2
    go_ret2
    exact ⟨rfl, F1.out.below⟩
/-- A round's cells: the box of the event. -/
abbrev rS (W : World) (v : Vp) (p : Option Addr) (c : Nat) (q : Option Addr) (d : Nat) (x kn pn tn : Nat) (w : World) : Prop :=
  w.cell? ⟨x, 0, none⟩ = some (.int .i64 (kn : Int)) ∧ w.cell? ⟨x, 1, none⟩ = some (.int .i64 (pn : Int)) ∧ w.cell? ⟨x, 2, none⟩ = some (.int .u64 (tn : Int)) ∧ Hid (FS W v p c q d w ∧ x < w.heap.size)
theorem rS.start {W : World} {v : Vp} {p : Option Addr} {c : Nat} {q : Option Addr} {d : Nat} {w : World} (h : FS W v p c q d w) (kn pn tn : Nat) : rS W v p c q d w.heap.size kn pn tn (w.alloc (.cells (ecl ⟨(kn : Int), (pn : Int), (tn : Int)⟩).toArray 49)) :=
  ⟨World.cell?_alloc_new _ _ _ _, World.cell?_alloc_new _ _ _ _, World.cell?_alloc_new _ _ _ _, h.alloc _, by simp⟩
theorem rS.later {W : World} {v : Vp} {p : Option Addr} {c : Nat} {q : Option Addr} {d : Nat} {x kn pn tn : Nat} {w w' : World} (h : rS W v p c q d x kn pn tn w) (hb : Below w.heap.size w w') : rS W v p c q d x kn pn tn w' := by
  obtain ⟨h1, h2, h3, hF, hx⟩ := h
  exact ⟨(hb.cell (p := ⟨x, 0, none⟩) hx).trans h1, (hb.cell (p := ⟨x, 1, none⟩) hx).trans h2, (hb.cell (p := ⟨x, 2, none⟩) hx).trans h3, hF.later hb, Nat.lt_of_lt_of_le hx hb.size⟩
theorem FS.of4 {W : World} {v : Vp} {p : Option Addr} {c : Nat} {q : Option Addr} {d : Nat} {a b e g : Prop} {w : World} (h : a ∧ b ∧ e ∧ Hid (FS W v p c q d w ∧ g)) : FS W v p c q d w := h.2.2.2.1
def kwB (k : Nat) : ByteArray := ⟨(wordsL.getD k [] ++ [32]).toArray⟩
set_option maxRecDepth 100000 in
set_option maxHeartbeats 16000000 in
theorem put_ok (v : Vp) (p : Option Addr) (c : Nat) (q : Option Addr) (d : Nat) (W : World) (hE : Env W) (hw : v.wf) (hp : Bytes W p v.out) (hq : Evs W q v.log) (ho : v.out.length ≤ 1000000) (hl : v.log.length ≤ 1000000) (hb : fOk v = true) :
    Calls Tryd.prog 9 #[.agg (vcs v p c q d).toArray] W fun e w' => e = .returned (.tuple #[.string ⟨(textL v).toArray⟩, .int .i64 0]) ∧ Below W.heap.size W w' := by
  have F0 := Lib.hid (FS.start (c := c) (d := d) hE hp hq)
  have hvo : vOk v = true := by unfold fOk at hb; exact (Bool.and_eq_true _ _ ▸ hb).1
  have hmost : v.done ≤ 1099511627776 := by unfold fOk at hb; exact of_decide_eq_true (Bool.and_eq_true _ _ ▸ hb).2
  have hvl : Hid (∀ e ∈ v.log, 1 ≤ e.kind ∧ e.kind ≤ 3 ∧ -1 < e.pos ∧ e.pos < v.done) := Lib.hid (vldL_all v.log (-1) (by unfold vOk at hvo; exact (Bool.and_eq_true _ _ ▸ hvo).2))
  have hd0 : 0 ≤ v.done := by
    unfold vOk hdOk at hvo
    exact (of_decide_eq_true (Bool.and_eq_true _ _ ▸ hvo).1).2.2.2
  have V := Lib.hid (fun w h => form_any (vcs v p c q d) v w h hl)
  rw [hvo] at V
  have hVC : Hid (∀ w, FS W v p c q d w → VC w (vcs v p c q d) v) := Lib.hid (fun w h => ⟨hw, p, c, q, d, rfl, h.by', h.ev⟩)
  have hlen := vcs_len hw p c q d
  have hsz : (Tryd.prog.info? 30).map (·.size) = some (vcs v p c q d).toArray.size := by rw [List.size_toArray, hlen]; exact size30
  obtain ⟨dn, hdn⟩ := Int.eq_ofNat_of_zero_le hd0
  obtain ⟨pc, hpc⟩ := Int.eq_ofNat_of_zero_le hw.pc.1
  have hpcw := hw.pc.2
  have HS := Lib.hid (fun w (h : FS W v p c q d w) => FS.hs h hw hdn hpc)
  have hc30 : Hid (∀ w, FS W v p c q d w → w.cell? ⟨W.heap.size, 30, none⟩ = some (.bool v.halted) ∧ w.cell? ⟨W.heap.size, 32, none⟩ = some (.slice q v.log.length d)) := Lib.hid (fun w h => ⟨h.cells 30 _ (vcs_end hw p c q d 1), h.cells 32 _ (vcs_end hw p c q d 3)⟩)
  have hlog : Hid (∀ e ∈ v.log, e.wf) := Lib.hid hw.log
  rw [hdn] at hmost
  rw [hpc] at hpcw
  have N1 := Lib.hid (fun w => dec_any dn w (by omega))
  have N2 := Lib.hid (fun w => dec_any pc w (by omega))
  have X := Lib.hid (fun w hp => rhex_any v.out ho p c w hp)
  have hhead : lineS [[103, 117, 101, 115, 116], Lib.decDigits dn, Lib.decDigits pc, howS v.halted, hexS v.out] = lineS (headL v) := by unfold headL; rw [hdn, hpc]; rfl
  have hheadlen : Hid ((lineS (headL v)).length ≤ 3000000) := Lib.hid (by
    rw [← hhead, lineS_five]
    have := dec_len dn (by omega)
    have := dec_len pc (by omega)
    have := howS_len v.halted
    have := hexS_len v.out
    simp only [List.length_append, List.length_cons, List.length_nil]
    omega)
  have HC := head_cat (Lib.decDigits dn) (Lib.decDigits pc) (howS v.halted) (hexS v.out)
  rw [hhead] at HC
  obtain ⟨HD, hHD⟩ : ∃ HD, lineS (headL v) = HD := ⟨_, rfl⟩
  have htext : Hid (textL v = HD ++ v.log.flatMap (fun e => lineS (evL e))) := Lib.hid (by rw [← hHD]; rfl)
  rw [htext.out]
  rw [hHD] at HC hheadlen
  obtain ⟨S1, hS1⟩ : ∃ S : ByteArray, ⟨(Lib.decDigits dn).toArray⟩ = S := ⟨_, rfl⟩
  obtain ⟨S2, hS2⟩ : ∃ S : ByteArray, ⟨(Lib.decDigits pc).toArray⟩ = S := ⟨_, rfl⟩
  obtain ⟨S3, hS3⟩ : ∃ S : ByteArray, ⟨(32 :: (howS v.halted ++ [32])).toArray⟩ = S := ⟨_, rfl⟩
  obtain ⟨S4, hS4⟩ : ∃ S : ByteArray, ⟨(hexS v.out).toArray⟩ = S := ⟨_, rfl⟩
  have z1 : S1.size ≤ 20 := by rw [← hS1]; exact dec_len dn (by omega)
  have z2 : S2.size ≤ 20 := by rw [← hS2]; exact dec_len pc (by omega)
  have z4 : S4.size ≤ 2000001 := by rw [← hS4]; exact Nat.le_trans (hexS_len v.out) (by omega)
  rw [hS1] at N1 HC
  rw [hS2] at N2 HC
  rw [hS3] at HC
  rw [hS4] at X HC
  have hwr1 : IntKind.u64.wrap (dn : Int) = (dn : Int) := by rw [IntKind.wrap_u64]; omega
  have hwr2 : IntKind.u64.wrap (pc : Int) = (pc : Int) := by rw [IntKind.wrap_u64]; omega
  clear hE hw hp hq hb hvo hd0 hlen hhead hHD htext hS1 hS2 hS4 ho
  obtain ⟨cs, hcs⟩ : ∃ cs, vcs v p c q d = cs := ⟨_, rfl⟩
  rw [hcs] at V hVC hsz ⊢
  have F0' : Hid (FS W v p c q d (W.alloc (.cells cs.toArray 30))) := by rw [← hcs]; exact F0
  have c31 := fun w h => (HS.out w h).1
  clear hcs F0 c31
  have hnm : decide ((1099511627776 : Int) < (dn : Int)) = false := decide_eq_false (by omega)
  go_enter Tryd.func9, Tryd.ntmps9
  go_wp2_with (refine wpList_load_row rfl 30 (.tmp 1) rfl W.heap.size rfl 30 cs.toArray (0, 0) _ (World.alloc_heap_new _ _) Tryd.underlying30 rfl hsz ?_)
  refine (V.out _ (hVC.out _ F0'.out)).mono ?_
  rintro e w1 ⟨rfl, hb⟩
  have F1 := Lib.hid (F0'.out.later hb)
  obtain ⟨c31, c16, c29, _⟩ := HS.out _ F1.out
  obtain ⟨c30, c32⟩ := hc30.out _ F1.out
  clear hb V F0'
  have hvl' : Hid (∀ e ∈ v.log, 1 ≤ e.kind ∧ e.kind ≤ 3 ∧ -1 < e.pos ∧ e.pos < (dn : Int)) := Lib.hid (by rw [← hdn]; exact hvl.out)
  have hcase : (v.halted = false ∧ S3 = ⟨#[32, 114, 117, 110, 110, 105, 110, 103, 32]⟩) ∨ (v.halted = true ∧ S3 = ⟨#[32, 104, 97, 108, 116, 101, 100, 32]⟩) := by
    cases hh : v.halted with
    | false => exact .inl ⟨rfl, by rw [← hS3, hh]; rfl⟩
    | true => exact .inr ⟨rfl, by rw [← hS3, hh]; rfl⟩
  have HDN := Lib.hid hdn
  have HPC := Lib.hid hpc
  clear hS3 hdn hpc hvl
  have HCAT := Lib.hid HC
  clear HC
  have s1 : ¬ 9223372036854775807 < 6 + S1.size := by omega
  have s2 : ¬ 9223372036854775807 < 6 + S1.size + 1 := by omega
  have s3 : ¬ 9223372036854775807 < 6 + S1.size + 1 + S2.size := by omega
  have s4 : ¬ 9223372036854775807 < 6 + S1.size + 1 + S2.size + 9 := by omega
  have s4' : ¬ 9223372036854775807 < 6 + S1.size + 1 + S2.size + 8 := by omega
  have s5 : ¬ 9223372036854775807 < 6 + S1.size + 1 + S2.size + 9 + S4.size := by omega
  have s5' : ¬ 9223372036854775807 < 6 + S1.size + 1 + S2.size + 8 + S4.size := by omega
  have s6 : ¬ 9223372036854775807 < 6 + S1.size + 1 + S2.size + 9 + S4.size + 1 := by omega
  have s6' : ¬ 9223372036854775807 < 6 + S1.size + 1 + S2.size + 8 + S4.size + 1 := by omega
  rcases hcase with ⟨hh, rfl⟩ | ⟨hh, rfl⟩
  all_goals
    rw [hh] at c30
    clear hh
    go_wp2_with fail
    go_region_held3 (fun w' => w'.cell? ⟨W.heap.size, 31, none⟩ = some (.int .i64 (dn : Int)) ∧ w'.cell? ⟨W.heap.size, 16, none⟩ = some (.int .u32 (pc : Int)) ∧ w'.cell? ⟨W.heap.size, 29, none⟩ = some (.slice p v.out.length c) ∧ Hid (FS W v p c q d w'))
      (first | (exact HS.out _ (FS.of (by assumption)).drew) | (exact HS.out _ F1.out.drew) | (exact HS.out _ ((FS.of (by assumption)).later hbc)) | (exact HS.out _ ((FS.of (by assumption)).alloc _)))
      (first
        | (go_at_call_of 20 (Value.int .u64 (dn : Int)); refine (N1.out _).mono ?_; rintro e w' ⟨rfl, hbc⟩)
        | (go_at_call_of 20 (Value.int .u64 (pc : Int)); refine (N2.out _).mono ?_; rintro e w' ⟨rfl, hbc⟩)
        | (go_at_call 21; refine (X.out _ (FS.of (by assumption)).by').mono ?_; rintro e w' ⟨rfl, hbc⟩))
    have F2 : Hid (FS W v p c q d w') := FS.of (by assumption)
    obtain ⟨e30, e32⟩ := hc30.out _ F2.out
    clear c31 c16 c29 c30 c32 F1 hbc e30 s1 s2 s3 s4 s4' s5 s5' s6 s6'
    simp only [HCAT.out]
    go_wp2_with fail
    go_loopw [5, 6] (fun s5 vi wr => ∃ (k : Nat) (A : List UInt8), k ≤ v.log.length ∧ vi = .int .i64 (k : Int) ∧ s5 = .string ⟨A.toArray⟩ ∧ Hid (A = HD ++ (v.log.take k).flatMap (fun e => lineS (evL e))) ∧ A.length ≤ 3000000 + 60 * k ∧ Hid (FS W v p c q d wr)) (fun _ vi _ => v.log.length - (intOf vi).toNat)
    case atStart => exact ⟨0, HD, by omega, rfl, rfl, Lib.hid (by simp), by have := hheadlen.out; omega, F2⟩
    case round =>
      obtain ⟨k, A, hk, rfl, rfl, hA, hAl, hF⟩ := hrel
      have r32 := (hc30.out _ hF.out).2
      by_cases hkn : k < v.log.length
      · obtain ⟨e, he⟩ : ∃ e, v.log[k]? = some e := ⟨v.log[k], List.getElem?_eq_getElem hkn⟩
        obtain ⟨a, hqa, hal, hac⟩ := hF.out.ev k e he
        obtain ⟨k1, k2, k3, k4⟩ := hvl'.out e (List.mem_of_getElem? he)
        obtain ⟨_, _, t1, t2⟩ := hlog.out e (List.mem_of_getElem? he)
        have hA2 : Hid (A ++ lineS (evL e) = HD ++ (v.log.take (k + 1)).flatMap (fun e => lineS (evL e))) := Lib.hid (by rw [List.take_add_one, he, Option.toList_some, List.flatMap_append, ← List.append_assoc, ← hA.out]; simp)
        obtain ⟨kd, ps, tm⟩ := e
        dsimp only at k1 k2 k3 k4 t1 t2
        obtain ⟨kn, rfl⟩ := Int.eq_ofNat_of_zero_le (show 0 ≤ kd by omega)
        obtain ⟨pn, rfl⟩ := Int.eq_ofNat_of_zero_le (show 0 ≤ ps by omega)
        obtain ⟨tn, rfl⟩ := Int.eq_ofNat_of_zero_le t1
        subst hqa
        have hsz3 : (Tryd.prog.info? 49).map (·.size) = some (ecl ⟨(kn : Int), (pn : Int), (tn : Int)⟩).length := size49
        have hTe : lineS (evL ⟨(kn : Int), (pn : Int), (tn : Int)⟩) = lineS [wordsL.getD kn [], Lib.decDigits pn, Lib.decDigits tn] := rfl
        rw [hTe] at hA2
        have hTl : (lineS [wordsL.getD kn [], Lib.decDigits pn, Lib.decDigits tn]).length ≤ 60 := by
          rw [lineS_three]
          have := dec_len pn (by omega)
          have := dec_len tn (by omega)
          have := words_len kn
          simp only [List.length_append, List.length_cons, List.length_nil]
          omega
        have EC := ev_cat A (wordsL.getD kn []) (Lib.decDigits pn) (Lib.decDigits tn)
        obtain ⟨TL, hTL⟩ : ∃ TL, lineS [wordsL.getD kn [], Lib.decDigits pn, Lib.decDigits tn] = TL := ⟨_, rfl⟩
        rw [hTL] at hA2 hTl EC
        have M1 := Lib.hid (fun w => dec_any pn w (by omega))
        have M2 := Lib.hid (fun w => dec_any tn w (by omega))
        obtain ⟨P1, hP1⟩ : ∃ S : ByteArray, ⟨(Lib.decDigits pn).toArray⟩ = S := ⟨_, rfl⟩
        obtain ⟨P2, hP2⟩ : ∃ S : ByteArray, ⟨(Lib.decDigits tn).toArray⟩ = S := ⟨_, rfl⟩
        have y1 : P1.size ≤ 20 := by rw [← hP1]; exact dec_len pn (by omega)
        have y2 : P2.size ≤ 20 := by rw [← hP2]; exact dec_len tn (by omega)
        rw [hP1] at EC M1
        rw [hP2] at EC M2
        obtain ⟨AB, hAB⟩ : ∃ S : ByteArray, ⟨A.toArray⟩ = S := ⟨_, rfl⟩
        have hABs : AB.size = A.length := by rw [← hAB]; exact List.size_toArray
        rw [hAB] at EC ⊢
        have v1 : IntKind.u64.wrap (pn : Int) = (pn : Int) := by rw [IntKind.wrap_u64]; omega
        have B0 := Lib.hid (rS.start hF.out kn pn tn)
        have q1 : (k : Int) < (v.log.length : Int) := by omega
        have q2 : (0 : Int) ≤ (k : Int) := by omega
        clear hTL hTe hP1 hP2 he hAB
        obtain ⟨WD, hWD⟩ : ∃ S : ByteArray, ⟨(wordsL.getD kn [] ++ [32]).toArray⟩ = S := ⟨_, rfl⟩
        rw [hWD] at EC
        have hWs : WD.size ≤ 6 := by
          rw [← hWD]
          show (wordsL.getD kn [] ++ [32]).length ≤ 6
          have := words_len kn
          rw [List.length_append, List.length_singleton]
          omega
        have ECH := Lib.hid EC
        clear EC
        have g1 : ¬ 9223372036854775807 < AB.size + WD.size := by omega
        have g2 : ¬ 9223372036854775807 < AB.size + WD.size + P1.size := by omega
        have g3 : ¬ 9223372036854775807 < AB.size + WD.size + P1.size + 1 := by omega
        have g4 : ¬ 9223372036854775807 < AB.size + WD.size + P1.size + 1 + P2.size := by omega
        have g5 : ¬ 9223372036854775807 < AB.size + WD.size + P1.size + 1 + P2.size + 1 := by omega
        have hk3 : kn = 1 ∨ kn = 2 ∨ kn = 3 := by omega
        have hWH : Hid (kn = 1 → WD = ⟨#[116, 105, 109, 101, 114, 32]⟩) := Lib.hid (fun h => by rw [← hWD, h]; rfl)
        have hWH2 : Hid (kn = 2 → WD = ⟨#[116, 105, 109, 101, 32]⟩) := Lib.hid (fun h => by rw [← hWD, h]; rfl)
        have hWH3 : Hid (kn = 3 → WD = ⟨#[116, 105, 109, 101, 104, 32]⟩) := Lib.hid (fun h => by rw [← hWD, h]; rfl)
        clear hWD
        have B0' := B0
        go_wp2_with (first
          | (refine wpList_load_at rfl 49 (.tmp 47) rfl (a.add (k * 3)) rfl (ecl ⟨(kn : Int), (pn : Int), (tn : Int)⟩) _ hac Tryd.underlying49 rfl hsz3 ?_)
          | (refine wpList_store_row rfl 49 (.tmp 7) (.tmp 48) rfl wr.heap.size (ecl ⟨(kn : Int), (pn : Int), (tn : Int)⟩).toArray rfl rfl 49 _ (World.alloc_heap_new _ _) size49 rfl (ecl_all _) ?_
             simp only [World.setRow_alloc_new]
             obtain ⟨x, hx⟩ : ∃ x, wr.heap.size = x := ⟨_, rfl⟩
             rw [hx] at B0
             simp only [hx]
             clear hx
             obtain ⟨wb, hwb⟩ : ∃ wb, wr.alloc (.cells (ecl ⟨(kn : Int), (pn : Int), (tn : Int)⟩).toArray 49) = wb := ⟨_, rfl⟩
             rw [hwb] at B0
             simp only [hwb]
             clear hwb))
        have hWD4 : Hid ((#[Value.string ⟨#[]⟩, .string ⟨#[116, 105, 109, 101, 114, 32]⟩, .string ⟨#[116, 105, 109, 101, 32]⟩, .string ⟨#[116, 105, 109, 101, 104, 32]⟩] : Array Value)[kn]? = some (.string WD)) := Lib.hid (hk3.elim (fun h => by rw [hWH.out h, h]; rfl) (fun h => h.elim (fun h => by rw [hWH2.out h, h]; rfl) (fun h => by rw [hWH3.out h, h]; rfl)))
        have q3 : (0 : Int) ≤ (kn : Int) := by omega
        have q4 : (kn : Int) < 4 := by omega
        clear hk3 hWH hWH2 hWH3 hABs
        refine wp_region_held_drew (S := fun w' => w'.cell? ⟨x, 0, none⟩ = some (.int .i64 (kn : Int)) ∧ w'.cell? ⟨x, 1, none⟩ = some (.int .i64 (pn : Int)) ∧ w'.cell? ⟨x, 2, none⟩ = some (.int .u64 (tn : Int)) ∧ Hid (FS W v p c (some a) d w' ∧ x < w'.heap.size)) (by kernel_rfl) (rS.later (W := W) (v := v) B0.out (Below.refl _ _).drew) (fun hHeld => ?_)
        obtain ⟨wd, hwd⟩ : ∃ z, wb.drew = z := ⟨_, rfl⟩
        rw [hwd] at hHeld ⊢
        clear hwd
        (refine wpAnyH_take (i := 0) (v := (.string AB)) rfl (by kernel_rfl) (by kernel_rfl) (by kernel_rfl) (fun _ _ _ h => h) (Or.inl ⟨by rfl, by intro w hSw; (try dsimp only at hSw); simp only [List.getElem_toArray, List.getElem_cons_zero, List.getElem_cons_succ]; go_simp⟩) (by assumption) ?_; simp only [Act.put, List.getElem_toArray, List.getElem_cons_zero, List.getElem_cons_succ, List.setIfInBounds_toArray, List.set_cons_zero, List.set_cons_succ])
        (refine wpAnyH_take (i := 2) (v := (.pointer (some ⟨x, 0, none⟩))) rfl (by kernel_rfl) (by kernel_rfl) (by kernel_rfl) (fun _ _ _ h => h) (Or.inl ⟨by rfl, by intro w hSw; (try dsimp only at hSw); simp only [List.getElem_toArray, List.getElem_cons_zero, List.getElem_cons_succ]; go_simp⟩) (by assumption) ?_; simp only [Act.put, List.getElem_toArray, List.getElem_cons_zero, List.getElem_cons_succ, List.setIfInBounds_toArray, List.set_cons_zero, List.set_cons_succ])
        (refine wpAnyH_take (i := 3) (v := (.int .i64 (kn : Int))) rfl (by kernel_rfl) (by kernel_rfl) (by kernel_rfl) (fun _ _ _ h => h) (Or.inl ⟨by rfl, by intro w hSw; (try dsimp only at hSw); simp only [List.getElem_toArray, List.getElem_cons_zero, List.getElem_cons_succ]; go_simp⟩) (by assumption) ?_; simp only [Act.put, List.getElem_toArray, List.getElem_cons_zero, List.getElem_cons_succ, List.setIfInBounds_toArray, List.set_cons_zero, List.set_cons_succ])
        (refine wpAnyH_take (i := 7) (v := (.pointer (some ⟨x, 1, none⟩))) rfl (by kernel_rfl) (by kernel_rfl) (by kernel_rfl) (fun _ _ _ h => h) (Or.inl ⟨by rfl, by intro w hSw; (try dsimp only at hSw); simp only [List.getElem_toArray, List.getElem_cons_zero, List.getElem_cons_succ]; go_simp⟩) (by assumption) ?_; simp only [Act.put, List.getElem_toArray, List.getElem_cons_zero, List.getElem_cons_succ, List.setIfInBounds_toArray, List.set_cons_zero, List.set_cons_succ])
        (refine wpAnyH_take (i := 8) (v := (.int .i64 (pn : Int))) rfl (by kernel_rfl) (by kernel_rfl) (by kernel_rfl) (fun _ _ _ h => h) (Or.inl ⟨by rfl, by intro w hSw; (try dsimp only at hSw); simp only [List.getElem_toArray, List.getElem_cons_zero, List.getElem_cons_succ]; go_simp⟩) (by assumption) ?_; simp only [Act.put, List.getElem_toArray, List.getElem_cons_zero, List.getElem_cons_succ, List.setIfInBounds_toArray, List.set_cons_zero, List.set_cons_succ])
        (refine wpAnyH_take (i := 9) (v := (.int .u64 (pn : Int))) rfl (by kernel_rfl) (by kernel_rfl) (by kernel_rfl) (fun _ _ _ h => h) (Or.inl ⟨by rfl, by intro w hSw; (try dsimp only at hSw); simp only [List.getElem_toArray, List.getElem_cons_zero, List.getElem_cons_succ]; go_simp⟩) (by assumption) ?_; simp only [Act.put, List.getElem_toArray, List.getElem_cons_zero, List.getElem_cons_succ, List.setIfInBounds_toArray, List.set_cons_zero, List.set_cons_succ])
        (refine wpAnyH_take (i := 13) (v := (.pointer (some ⟨x, 2, none⟩))) rfl (by kernel_rfl) (by kernel_rfl) (by kernel_rfl) (fun _ _ _ h => h) (Or.inl ⟨by rfl, by intro w hSw; (try dsimp only at hSw); simp only [List.getElem_toArray, List.getElem_cons_zero, List.getElem_cons_succ]; go_simp⟩) (by assumption) ?_; simp only [Act.put, List.getElem_toArray, List.getElem_cons_zero, List.getElem_cons_succ, List.setIfInBounds_toArray, List.set_cons_zero, List.set_cons_succ])
        (refine wpAnyH_take (i := 14) (v := (.int .u64 (tn : Int))) rfl (by kernel_rfl) (by kernel_rfl) (by kernel_rfl) (fun _ _ _ h => h) (Or.inl ⟨by rfl, by intro w hSw; (try dsimp only at hSw); simp only [List.getElem_toArray, List.getElem_cons_zero, List.getElem_cons_succ]; go_simp⟩) (by assumption) ?_; simp only [Act.put, List.getElem_toArray, List.getElem_cons_zero, List.getElem_cons_succ, List.setIfInBounds_toArray, List.set_cons_zero, List.set_cons_succ])
        refine wpAnyH_ready (rs := [1, 10]) (by kernel_rfl) (by simp) ?_
        refine AllReadyH.cons rfl (fun K hK => ?_) (AllReadyH.cons rfl (fun K hK => ?_) AllReadyH.nil)
        · simp only [List.getElem_toArray, List.getElem_cons_zero, List.getElem_cons_succ]
          go_simp
          obtain ⟨y, hy⟩ : ∃ y, (World.heap wd).size = y := ⟨_, rfl⟩
          have bb : Below (World.heap wd).size wd (World.alloc wd (.cells #[.string ⟨#[]⟩, .string ⟨#[116, 105, 109, 101, 114, 32]⟩, .string ⟨#[116, 105, 109, 101, 32]⟩, .string ⟨#[116, 105, 109, 101, 104, 32]⟩] 9)) := (Below.refl _ _).alloc (Nat.le_refl _) _
          have cy : (World.alloc wd (.cells #[.string ⟨#[]⟩, .string ⟨#[116, 105, 109, 101, 114, 32]⟩, .string ⟨#[116, 105, 109, 101, 32]⟩, .string ⟨#[116, 105, 109, 101, 104, 32]⟩] 9)).cell? ⟨y, kn, none⟩ = some (.string WD) := by rw [← hy, World.cell?_alloc_new]; exact hWD4.out
          obtain ⟨w2, hw2⟩ : ∃ wz, World.alloc wd (.cells #[.string ⟨#[]⟩, .string ⟨#[116, 105, 109, 101, 114, 32]⟩, .string ⟨#[116, 105, 109, 101, 32]⟩, .string ⟨#[116, 105, 109, 101, 104, 32]⟩] 9) = wz := ⟨_, rfl⟩
          rw [hw2] at bb cy
          simp only [hy, hw2]
          refine hK.out _ _ (rS.later (W := W) (v := v) hHeld bb) (fun hHeld2 => ?_)
          clear hK K hw2 hy bb hHeld
          have hHeld := hHeld2
          clear hHeld2
          have hHeld2 := And.intro cy hHeld
          clear hHeld cy
          have hHeld := hHeld2
          clear hHeld2
          try simp only [Act.put, List.setIfInBounds_toArray, List.set_cons_zero, List.set_cons_succ]
          refine anyH_sub (S' := fun w' => w'.cell? ⟨y, kn, none⟩ = some (.string WD) ∧ w'.cell? ⟨x, 0, none⟩ = some (.int .i64 (kn : Int)) ∧ w'.cell? ⟨x, 1, none⟩ = some (.int .i64 (pn : Int)) ∧ w'.cell? ⟨x, 2, none⟩ = some (.int .u64 (tn : Int)) ∧ Hid (FS W v p c (some a) d w' ∧ x < w'.heap.size)) (fun w h => h.2) _ _ _ _ ?_
          (refine wpAnyH_take (i := 4) (v := (.pointer (some ⟨y, kn, none⟩))) rfl (by kernel_rfl) (by kernel_rfl) (by kernel_rfl) (fun _ _ _ h => h) (Or.inl ⟨by rfl, by intro w hSw; (try dsimp only at hSw); simp only [List.getElem_toArray, List.getElem_cons_zero, List.getElem_cons_succ]; go_simp⟩) (by assumption) ?_; simp only [Act.put, List.getElem_toArray, List.getElem_cons_zero, List.getElem_cons_succ, List.setIfInBounds_toArray, List.set_cons_zero, List.set_cons_succ])
          (refine wpAnyH_take (i := 5) (v := (.string WD)) rfl (by kernel_rfl) (by kernel_rfl) (by kernel_rfl) (fun _ _ _ h => h) (Or.inl ⟨by rfl, by intro w hSw; (try dsimp only at hSw); simp only [List.getElem_toArray, List.getElem_cons_zero, List.getElem_cons_succ]; go_simp⟩) (by assumption) ?_; simp only [Act.put, List.getElem_toArray, List.getElem_cons_zero, List.getElem_cons_succ, List.setIfInBounds_toArray, List.set_cons_zero, List.set_cons_succ])
          (refine wpAnyH_take (i := 6) (v := (.string (AB ++ WD))) rfl (by kernel_rfl) (by kernel_rfl) (by kernel_rfl) (fun _ _ _ h => h) (Or.inl ⟨by rfl, by intro w hSw; (try dsimp only at hSw); simp only [List.getElem_toArray, List.getElem_cons_zero, List.getElem_cons_succ]; go_simp⟩) (by assumption) ?_; simp only [Act.put, List.getElem_toArray, List.getElem_cons_zero, List.getElem_cons_succ, List.setIfInBounds_toArray, List.set_cons_zero, List.set_cons_succ])
          refine wpAnyH_ready (rs := [10]) (by kernel_rfl) (by simp) ?_
          refine AllReadyH.cons rfl (fun K hK => ?_) AllReadyH.nil
          simp only [List.getElem_toArray, List.getElem_cons_zero, List.getElem_cons_succ]
          go_simp
          refine (M1.out _).mono ?_
          rintro e w3 ⟨rfl, hbc⟩
          refine hK.out _ _ ⟨cell_keep hbc hHeld.1, rS.later (W := W) (v := v) hHeld.2 hbc⟩ (fun hHeld2 => ?_)
          clear hK K hbc hHeld
          have hHeld := hHeld2
          clear hHeld2
          try simp only [Act.put, List.setIfInBounds_toArray, List.set_cons_zero, List.set_cons_succ]
          (refine wpAnyH_take (i := 11) (v := (.string (AB ++ WD ++ P1))) rfl (by kernel_rfl) (by kernel_rfl) (by kernel_rfl) (fun _ _ _ h => h) (Or.inl ⟨by rfl, by intro w hSw; (try dsimp only at hSw); simp only [List.getElem_toArray, List.getElem_cons_zero, List.getElem_cons_succ]; go_simp⟩) (by assumption) ?_; simp only [Act.put, List.getElem_toArray, List.getElem_cons_zero, List.getElem_cons_succ, List.setIfInBounds_toArray, List.set_cons_zero, List.set_cons_succ])
          (refine wpAnyH_take (i := 12) (v := (.string (AB ++ WD ++ P1 ++ ⟨#[32]⟩))) rfl (by kernel_rfl) (by kernel_rfl) (by kernel_rfl) (fun _ _ _ h => h) (Or.inl ⟨by rfl, by intro w hSw; (try dsimp only at hSw); simp only [List.getElem_toArray, List.getElem_cons_zero, List.getElem_cons_succ]; go_simp⟩) (by assumption) ?_; simp only [Act.put, List.getElem_toArray, List.getElem_cons_zero, List.getElem_cons_succ, List.setIfInBounds_toArray, List.set_cons_zero, List.set_cons_succ])
          refine wpAnyH_ready (rs := [15]) (by kernel_rfl) (by simp) ?_
          refine AllReadyH.cons rfl (fun K hK => ?_) AllReadyH.nil
          simp only [List.getElem_toArray, List.getElem_cons_zero, List.getElem_cons_succ]
          go_simp
          refine (M2.out _).mono ?_
          rintro e w4 ⟨rfl, hbc⟩
          refine hK.out _ _ ⟨cell_keep hbc hHeld.1, rS.later (W := W) (v := v) hHeld.2 hbc⟩ (fun hHeld2 => ?_)
          clear hK K hbc hHeld
          have hHeld := hHeld2
          clear hHeld2
          try simp only [Act.put, List.setIfInBounds_toArray, List.set_cons_zero, List.set_cons_succ]
          (refine wpAnyH_take (i := 16) (v := (.string (AB ++ WD ++ P1 ++ ⟨#[32]⟩ ++ P2))) rfl (by kernel_rfl) (by kernel_rfl) (by kernel_rfl) (fun _ _ _ h => h) (Or.inl ⟨by rfl, by intro w hSw; (try dsimp only at hSw); simp only [List.getElem_toArray, List.getElem_cons_zero, List.getElem_cons_succ]; go_simp⟩) (by assumption) ?_; simp only [Act.put, List.getElem_toArray, List.getElem_cons_zero, List.getElem_cons_succ, List.setIfInBounds_toArray, List.set_cons_zero, List.set_cons_succ])
          (refine wpAnyH_take (i := 17) (v := (.string (AB ++ WD ++ P1 ++ ⟨#[32]⟩ ++ P2 ++ ⟨#[10]⟩))) rfl (by kernel_rfl) (by kernel_rfl) (by kernel_rfl) (fun _ _ _ h => h) (Or.inl ⟨by rfl, by intro w hSw; (try dsimp only at hSw); simp only [List.getElem_toArray, List.getElem_cons_zero, List.getElem_cons_succ]; go_simp⟩) (by assumption) ?_; simp only [Act.put, List.getElem_toArray, List.getElem_cons_zero, List.getElem_cons_succ, List.setIfInBounds_toArray, List.set_cons_zero, List.set_cons_succ])
          (refine wpAnyH_take (i := 18) (v := (.string (AB ++ WD ++ P1 ++ ⟨#[32]⟩ ++ P2 ++ ⟨#[10]⟩))) rfl (by kernel_rfl) (by kernel_rfl) (by kernel_rfl) (fun _ _ _ h => h) (Or.inl ⟨by rfl, by intro w hSw; (try dsimp only at hSw); simp only [List.getElem_toArray, List.getElem_cons_zero, List.getElem_cons_succ]; go_simp⟩) (by assumption) ?_; simp only [Act.put, List.getElem_toArray, List.getElem_cons_zero, List.getElem_cons_succ, List.setIfInBounds_toArray, List.set_cons_zero, List.set_cons_succ])
          refine wpAnyH_done (by kernel_rfl) ?_ _
          have F3 := Lib.hid (FS.of4 hHeld.2)
          clear hHeld B0 B0'
          simp only [ECH.out]
          go_wp2
          go_roundw
          case rel => exact ⟨k + 1, A ++ TL, by omega, by go_num, rfl, hA2, by rw [List.length_append]; omega, F3⟩
          case measure => simp [intOf]; omega
        · simp only [List.getElem_toArray, List.getElem_cons_zero, List.getElem_cons_succ]
          go_simp
          refine (M1.out _).mono ?_
          rintro e w2 ⟨rfl, hbc⟩
          refine hK.out _ _ (rS.later (W := W) (v := v) hHeld hbc) (fun hHeld2 => ?_)
          clear hK K hbc hHeld
          have hHeld := hHeld2
          clear hHeld2
          try simp only [Act.put, List.setIfInBounds_toArray, List.set_cons_zero, List.set_cons_succ]
          refine wpAnyH_ready (rs := [1, 15]) (by kernel_rfl) (by simp) ?_
          refine AllReadyH.cons rfl (fun K hK => ?_) (AllReadyH.cons rfl (fun K hK => ?_) AllReadyH.nil)
          · simp only [List.getElem_toArray, List.getElem_cons_zero, List.getElem_cons_succ]
            go_simp
            obtain ⟨y, hy⟩ : ∃ y, (World.heap w2).size = y := ⟨_, rfl⟩
            have bb : Below (World.heap w2).size w2 (World.alloc w2 (.cells #[.string ⟨#[]⟩, .string ⟨#[116, 105, 109, 101, 114, 32]⟩, .string ⟨#[116, 105, 109, 101, 32]⟩, .string ⟨#[116, 105, 109, 101, 104, 32]⟩] 9)) := (Below.refl _ _).alloc (Nat.le_refl _) _
            have cy : (World.alloc w2 (.cells #[.string ⟨#[]⟩, .string ⟨#[116, 105, 109, 101, 114, 32]⟩, .string ⟨#[116, 105, 109, 101, 32]⟩, .string ⟨#[116, 105, 109, 101, 104, 32]⟩] 9)).cell? ⟨y, kn, none⟩ = some (.string WD) := by rw [← hy, World.cell?_alloc_new]; exact hWD4.out
            obtain ⟨w3, hw2⟩ : ∃ wz, World.alloc w2 (.cells #[.string ⟨#[]⟩, .string ⟨#[116, 105, 109, 101, 114, 32]⟩, .string ⟨#[116, 105, 109, 101, 32]⟩, .string ⟨#[116, 105, 109, 101, 104, 32]⟩] 9) = wz := ⟨_, rfl⟩
            rw [hw2] at bb cy
            simp only [hy, hw2]
            refine hK.out _ _ (rS.later (W := W) (v := v) hHeld bb) (fun hHeld2 => ?_)
            clear hK K hw2 hy bb hHeld
            have hHeld := hHeld2
            clear hHeld2
            have hHeld2 := And.intro cy hHeld
            clear hHeld cy
            have hHeld := hHeld2
            clear hHeld2
            try simp only [Act.put, List.setIfInBounds_toArray, List.set_cons_zero, List.set_cons_succ]
            refine anyH_sub (S' := fun w' => w'.cell? ⟨y, kn, none⟩ = some (.string WD) ∧ w'.cell? ⟨x, 0, none⟩ = some (.int .i64 (kn : Int)) ∧ w'.cell? ⟨x, 1, none⟩ = some (.int .i64 (pn : Int)) ∧ w'.cell? ⟨x, 2, none⟩ = some (.int .u64 (tn : Int)) ∧ Hid (FS W v p c (some a) d w' ∧ x < w'.heap.size)) (fun w h => h.2) _ _ _ _ ?_
            (refine wpAnyH_take (i := 4) (v := (.pointer (some ⟨y, kn, none⟩))) rfl (by kernel_rfl) (by kernel_rfl) (by kernel_rfl) (fun _ _ _ h => h) (Or.inl ⟨by rfl, by intro w hSw; (try dsimp only at hSw); simp only [List.getElem_toArray, List.getElem_cons_zero, List.getElem_cons_succ]; go_simp⟩) (by assumption) ?_; simp only [Act.put, List.getElem_toArray, List.getElem_cons_zero, List.getElem_cons_succ, List.setIfInBounds_toArray, List.set_cons_zero, List.set_cons_succ])
            (refine wpAnyH_take (i := 5) (v := (.string WD)) rfl (by kernel_rfl) (by kernel_rfl) (by kernel_rfl) (fun _ _ _ h => h) (Or.inl ⟨by rfl, by intro w hSw; (try dsimp only at hSw); simp only [List.getElem_toArray, List.getElem_cons_zero, List.getElem_cons_succ]; go_simp⟩) (by assumption) ?_; simp only [Act.put, List.getElem_toArray, List.getElem_cons_zero, List.getElem_cons_succ, List.setIfInBounds_toArray, List.set_cons_zero, List.set_cons_succ])
            (refine wpAnyH_take (i := 6) (v := (.string (AB ++ WD))) rfl (by kernel_rfl) (by kernel_rfl) (by kernel_rfl) (fun _ _ _ h => h) (Or.inl ⟨by rfl, by intro w hSw; (try dsimp only at hSw); simp only [List.getElem_toArray, List.getElem_cons_zero, List.getElem_cons_succ]; go_simp⟩) (by assumption) ?_; simp only [Act.put, List.getElem_toArray, List.getElem_cons_zero, List.getElem_cons_succ, List.setIfInBounds_toArray, List.set_cons_zero, List.set_cons_succ])
            (refine wpAnyH_take (i := 11) (v := (.string (AB ++ WD ++ P1))) rfl (by kernel_rfl) (by kernel_rfl) (by kernel_rfl) (fun _ _ _ h => h) (Or.inl ⟨by rfl, by intro w hSw; (try dsimp only at hSw); simp only [List.getElem_toArray, List.getElem_cons_zero, List.getElem_cons_succ]; go_simp⟩) (by assumption) ?_; simp only [Act.put, List.getElem_toArray, List.getElem_cons_zero, List.getElem_cons_succ, List.setIfInBounds_toArray, List.set_cons_zero, List.set_cons_succ])
            (refine wpAnyH_take (i := 12) (v := (.string (AB ++ WD ++ P1 ++ ⟨#[32]⟩))) rfl (by kernel_rfl) (by kernel_rfl) (by kernel_rfl) (fun _ _ _ h => h) (Or.inl ⟨by rfl, by intro w hSw; (try dsimp only at hSw); simp only [List.getElem_toArray, List.getElem_cons_zero, List.getElem_cons_succ]; go_simp⟩) (by assumption) ?_; simp only [Act.put, List.getElem_toArray, List.getElem_cons_zero, List.getElem_cons_succ, List.setIfInBounds_toArray, List.set_cons_zero, List.set_cons_succ])
            refine wpAnyH_ready (rs := [15]) (by kernel_rfl) (by simp) ?_
            refine AllReadyH.cons rfl (fun K hK => ?_) AllReadyH.nil
            simp only [List.getElem_toArray, List.getElem_cons_zero, List.getElem_cons_succ]
            go_simp
            refine (M2.out _).mono ?_
            rintro e w4 ⟨rfl, hbc⟩
            refine hK.out _ _ ⟨cell_keep hbc hHeld.1, rS.later (W := W) (v := v) hHeld.2 hbc⟩ (fun hHeld2 => ?_)
            clear hK K hbc hHeld
            have hHeld := hHeld2
            clear hHeld2
            try simp only [Act.put, List.setIfInBounds_toArray, List.set_cons_zero, List.set_cons_succ]
            (refine wpAnyH_take (i := 16) (v := (.string (AB ++ WD ++ P1 ++ ⟨#[32]⟩ ++ P2))) rfl (by kernel_rfl) (by kernel_rfl) (by kernel_rfl) (fun _ _ _ h => h) (Or.inl ⟨by rfl, by intro w hSw; (try dsimp only at hSw); simp only [List.getElem_toArray, List.getElem_cons_zero, List.getElem_cons_succ]; go_simp⟩) (by assumption) ?_; simp only [Act.put, List.getElem_toArray, List.getElem_cons_zero, List.getElem_cons_succ, List.setIfInBounds_toArray, List.set_cons_zero, List.set_cons_succ])
            (refine wpAnyH_take (i := 17) (v := (.string (AB ++ WD ++ P1 ++ ⟨#[32]⟩ ++ P2 ++ ⟨#[10]⟩))) rfl (by kernel_rfl) (by kernel_rfl) (by kernel_rfl) (fun _ _ _ h => h) (Or.inl ⟨by rfl, by intro w hSw; (try dsimp only at hSw); simp only [List.getElem_toArray, List.getElem_cons_zero, List.getElem_cons_succ]; go_simp⟩) (by assumption) ?_; simp only [Act.put, List.getElem_toArray, List.getElem_cons_zero, List.getElem_cons_succ, List.setIfInBounds_toArray, List.set_cons_zero, List.set_cons_succ])
            (refine wpAnyH_take (i := 18) (v := (.string (AB ++ WD ++ P1 ++ ⟨#[32]⟩ ++ P2 ++ ⟨#[10]⟩))) rfl (by kernel_rfl) (by kernel_rfl) (by kernel_rfl) (fun _ _ _ h => h) (Or.inl ⟨by rfl, by intro w hSw; (try dsimp only at hSw); simp only [List.getElem_toArray, List.getElem_cons_zero, List.getElem_cons_succ]; go_simp⟩) (by assumption) ?_; simp only [Act.put, List.getElem_toArray, List.getElem_cons_zero, List.getElem_cons_succ, List.setIfInBounds_toArray, List.set_cons_zero, List.set_cons_succ])
            refine wpAnyH_done (by kernel_rfl) ?_ _
            have F3 := Lib.hid (FS.of4 hHeld.2)
            clear hHeld B0 B0'
            simp only [ECH.out]
            go_wp2
            go_roundw
            case rel => exact ⟨k + 1, A ++ TL, by omega, by go_num, rfl, hA2, by rw [List.length_append]; omega, F3⟩
            case measure => simp [intOf]; omega
          · simp only [List.getElem_toArray, List.getElem_cons_zero, List.getElem_cons_succ]
            go_simp
            refine (M2.out _).mono ?_
            rintro e w3 ⟨rfl, hbc⟩
            refine hK.out _ _ (rS.later (W := W) (v := v) hHeld hbc) (fun hHeld2 => ?_)
            clear hK K hbc hHeld
            have hHeld := hHeld2
            clear hHeld2
            try simp only [Act.put, List.setIfInBounds_toArray, List.set_cons_zero, List.set_cons_succ]
            refine wpAnyH_ready (rs := [1]) (by kernel_rfl) (by simp) ?_
            refine AllReadyH.cons rfl (fun K hK => ?_) AllReadyH.nil
            simp only [List.getElem_toArray, List.getElem_cons_zero, List.getElem_cons_succ]
            go_simp
            obtain ⟨y, hy⟩ : ∃ y, (World.heap w3).size = y := ⟨_, rfl⟩
            have bb : Below (World.heap w3).size w3 (World.alloc w3 (.cells #[.string ⟨#[]⟩, .string ⟨#[116, 105, 109, 101, 114, 32]⟩, .string ⟨#[116, 105, 109, 101, 32]⟩, .string ⟨#[116, 105, 109, 101, 104, 32]⟩] 9)) := (Below.refl _ _).alloc (Nat.le_refl _) _
            have cy : (World.alloc w3 (.cells #[.string ⟨#[]⟩, .string ⟨#[116, 105, 109, 101, 114, 32]⟩, .string ⟨#[116, 105, 109, 101, 32]⟩, .string ⟨#[116, 105, 109, 101, 104, 32]⟩] 9)).cell? ⟨y, kn, none⟩ = some (.string WD) := by rw [← hy, World.cell?_alloc_new]; exact hWD4.out
            obtain ⟨w4, hw2⟩ : ∃ wz, World.alloc w3 (.cells #[.string ⟨#[]⟩, .string ⟨#[116, 105, 109, 101, 114, 32]⟩, .string ⟨#[116, 105, 109, 101, 32]⟩, .string ⟨#[116, 105, 109, 101, 104, 32]⟩] 9) = wz := ⟨_, rfl⟩
            rw [hw2] at bb cy
            simp only [hy, hw2]
            refine hK.out _ _ (rS.later (W := W) (v := v) hHeld bb) (fun hHeld2 => ?_)
            clear hK K hw2 hy bb hHeld
            have hHeld := hHeld2
            clear hHeld2
            have hHeld2 := And.intro cy hHeld
            clear hHeld cy
            have hHeld := hHeld2
            clear hHeld2
            try simp only [Act.put, List.setIfInBounds_toArray, List.set_cons_zero, List.set_cons_succ]
            refine anyH_sub (S' := fun w' => w'.cell? ⟨y, kn, none⟩ = some (.string WD) ∧ w'.cell? ⟨x, 0, none⟩ = some (.int .i64 (kn : Int)) ∧ w'.cell? ⟨x, 1, none⟩ = some (.int .i64 (pn : Int)) ∧ w'.cell? ⟨x, 2, none⟩ = some (.int .u64 (tn : Int)) ∧ Hid (FS W v p c (some a) d w' ∧ x < w'.heap.size)) (fun w h => h.2) _ _ _ _ ?_
            (refine wpAnyH_take (i := 4) (v := (.pointer (some ⟨y, kn, none⟩))) rfl (by kernel_rfl) (by kernel_rfl) (by kernel_rfl) (fun _ _ _ h => h) (Or.inl ⟨by rfl, by intro w hSw; (try dsimp only at hSw); simp only [List.getElem_toArray, List.getElem_cons_zero, List.getElem_cons_succ]; go_simp⟩) (by assumption) ?_; simp only [Act.put, List.getElem_toArray, List.getElem_cons_zero, List.getElem_cons_succ, List.setIfInBounds_toArray, List.set_cons_zero, List.set_cons_succ])
            (refine wpAnyH_take (i := 5) (v := (.string WD)) rfl (by kernel_rfl) (by kernel_rfl) (by kernel_rfl) (fun _ _ _ h => h) (Or.inl ⟨by rfl, by intro w hSw; (try dsimp only at hSw); simp only [List.getElem_toArray, List.getElem_cons_zero, List.getElem_cons_succ]; go_simp⟩) (by assumption) ?_; simp only [Act.put, List.getElem_toArray, List.getElem_cons_zero, List.getElem_cons_succ, List.setIfInBounds_toArray, List.set_cons_zero, List.set_cons_succ])
            (refine wpAnyH_take (i := 6) (v := (.string (AB ++ WD))) rfl (by kernel_rfl) (by kernel_rfl) (by kernel_rfl) (fun _ _ _ h => h) (Or.inl ⟨by rfl, by intro w hSw; (try dsimp only at hSw); simp only [List.getElem_toArray, List.getElem_cons_zero, List.getElem_cons_succ]; go_simp⟩) (by assumption) ?_; simp only [Act.put, List.getElem_toArray, List.getElem_cons_zero, List.getElem_cons_succ, List.setIfInBounds_toArray, List.set_cons_zero, List.set_cons_succ])
            (refine wpAnyH_take (i := 11) (v := (.string (AB ++ WD ++ P1))) rfl (by kernel_rfl) (by kernel_rfl) (by kernel_rfl) (fun _ _ _ h => h) (Or.inl ⟨by rfl, by intro w hSw; (try dsimp only at hSw); simp only [List.getElem_toArray, List.getElem_cons_zero, List.getElem_cons_succ]; go_simp⟩) (by assumption) ?_; simp only [Act.put, List.getElem_toArray, List.getElem_cons_zero, List.getElem_cons_succ, List.setIfInBounds_toArray, List.set_cons_zero, List.set_cons_succ])
            (refine wpAnyH_take (i := 12) (v := (.string (AB ++ WD ++ P1 ++ ⟨#[32]⟩))) rfl (by kernel_rfl) (by kernel_rfl) (by kernel_rfl) (fun _ _ _ h => h) (Or.inl ⟨by rfl, by intro w hSw; (try dsimp only at hSw); simp only [List.getElem_toArray, List.getElem_cons_zero, List.getElem_cons_succ]; go_simp⟩) (by assumption) ?_; simp only [Act.put, List.getElem_toArray, List.getElem_cons_zero, List.getElem_cons_succ, List.setIfInBounds_toArray, List.set_cons_zero, List.set_cons_succ])
            (refine wpAnyH_take (i := 16) (v := (.string (AB ++ WD ++ P1 ++ ⟨#[32]⟩ ++ P2))) rfl (by kernel_rfl) (by kernel_rfl) (by kernel_rfl) (fun _ _ _ h => h) (Or.inl ⟨by rfl, by intro w hSw; (try dsimp only at hSw); simp only [List.getElem_toArray, List.getElem_cons_zero, List.getElem_cons_succ]; go_simp⟩) (by assumption) ?_; simp only [Act.put, List.getElem_toArray, List.getElem_cons_zero, List.getElem_cons_succ, List.setIfInBounds_toArray, List.set_cons_zero, List.set_cons_succ])
            (refine wpAnyH_take (i := 17) (v := (.string (AB ++ WD ++ P1 ++ ⟨#[32]⟩ ++ P2 ++ ⟨#[10]⟩))) rfl (by kernel_rfl) (by kernel_rfl) (by kernel_rfl) (fun _ _ _ h => h) (Or.inl ⟨by rfl, by intro w hSw; (try dsimp only at hSw); simp only [List.getElem_toArray, List.getElem_cons_zero, List.getElem_cons_succ]; go_simp⟩) (by assumption) ?_; simp only [Act.put, List.getElem_toArray, List.getElem_cons_zero, List.getElem_cons_succ, List.setIfInBounds_toArray, List.set_cons_zero, List.set_cons_succ])
            (refine wpAnyH_take (i := 18) (v := (.string (AB ++ WD ++ P1 ++ ⟨#[32]⟩ ++ P2 ++ ⟨#[10]⟩))) rfl (by kernel_rfl) (by kernel_rfl) (by kernel_rfl) (fun _ _ _ h => h) (Or.inl ⟨by rfl, by intro w hSw; (try dsimp only at hSw); simp only [List.getElem_toArray, List.getElem_cons_zero, List.getElem_cons_succ]; go_simp⟩) (by assumption) ?_; simp only [Act.put, List.getElem_toArray, List.getElem_cons_zero, List.getElem_cons_succ, List.setIfInBounds_toArray, List.set_cons_zero, List.set_cons_succ])
            refine wpAnyH_done (by kernel_rfl) ?_ _
            have F3 := Lib.hid (FS.of4 hHeld.2)
            clear hHeld B0 B0'
            simp only [ECH.out]
            go_wp2
            go_roundw
            case rel => exact ⟨k + 1, A ++ TL, by omega, by go_num, rfl, hA2, by rw [List.length_append]; omega, F3⟩
            case measure => simp [intOf]; omega
      · obtain rfl : k = v.log.length := by omega
        have htk : Hid (A = HD ++ v.log.flatMap (fun e => lineS (evL e))) := Lib.hid (by rw [hA.out, List.take_length])
        clear hA
        go_wp2
        go_ret2
        exact ⟨by rw [← htk.out]; rfl, hF.out.below⟩
/-- gaolerref28.Put. -/
theorem put_any (cs : List Value) (v : Vp) (W : World) (hE : Env W) (h : VC W cs v) (ho : v.out.length ≤ 1000000) (hl : v.log.length ≤ 1000000) :
    Calls Tryd.prog 9 #[.agg cs.toArray] W fun e w' => e = .returned (.tuple #[.string (fmtS v), .int .i64 (fmtE v)]) ∧ Below W.heap.size W w' := by
  obtain ⟨p, c, q, d, rfl, hp, hq⟩ := h.cells
  unfold fmtS fmtE
  cases hb : fOk v with
  | true => rw [if_pos rfl, if_pos rfl]; exact put_ok v p c q d W hE h.wf hp hq ho hl hb
  | false => rw [if_neg (by decide), if_neg (by decide)]; exact put_bad v p c q d W hE h.wf hp hq hl hb
end Go.Proofs.YtnfkimhhgflfjaaDoor.Rep
