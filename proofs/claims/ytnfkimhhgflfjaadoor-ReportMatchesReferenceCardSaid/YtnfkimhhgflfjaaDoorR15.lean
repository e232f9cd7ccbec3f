/- report.Parse, walked. -/
import Derived.Test.YtnfkimhhgflfjaaDoorR14
namespace Go.Proofs.YtnfkimhhgflfjaaDoor.Rep
open Go Go.RowKit Go.Shelf
set_option linter.unusedVariables false
set_option linter.unusedSimpArgs false
attribute [local go_sem] Oper.semAt_some
/-- What report.Parse reads out of a text. -/
def readV (xs : List (List UInt8)) (y : List UInt8) : Vp := foldV 0 zeroV (xs ++ [y])
/-- Is the text what report.Format makes of what was read? -/
def parseOk (xs : List (List UInt8)) (y : List UInt8) : Bool := fOk (readV xs y) && decide (fmtS (readV xs y) = ⟨(glue xs y).toArray⟩)
/-- How report.Parse ends. -/
def ParE (v : Vp) (b : Bool) (e : Ending) (w' : World) : Prop := ∃ cs, VC w' cs (if b = true then v else zeroV) ∧ e = .returned (.tuple #[.agg cs.toArray, .int .i64 (if b = true then 0 else 2)])
theorem wpListIn_store_mid {F : Fence} {n : Nat} {ops : Array Oper} {rest : List Oper} {op : Oper} {a : Act} {w : World} {Q : Exit → Act → World → Prop} (hgd : op.guard = none) (x y : Operand) (ho : op.op = .store 30 x y)
    (b : Nat) (cells : List Value) (hx : a.eval x = .pointer (some ⟨b, 0, none⟩)) (hy : a.eval y = .agg cells.toArray) (ht : w.there b 0 33) (hl : cells.length = 33) (h1 : ∀ u ∈ cells, u.oneCell' = true)
    (h : wpListIn F n Tryd.prog ops Q rest (a.put op.dst undef) (w.setCells b 0 cells)) : wpListIn F n Tryd.prog ops Q (op :: rest) a w :=
  wpListIn_plain hgd fun K hK => by
    have h0 := wp_store_mid (P := Tryd.prog) (K := fun _ w' => w' = w.setCells b 0 cells) (Q := fun _ _ _ => False) 30 x y ho b 0 cells.toArray hx hy (by rw [← hl] at ht; exact ht) (by have := size30; rw [← hl] at this; exact this) (all_oneCell_toArray h1) (by rfl)
    unfold Oper.wpIn
    refine ⟨by simp [Oper.about, ho], ?_⟩
    rw [Oper.semAt_plain F _ _ (by rw [ho]; intro c hc'; cases hc')]
    have hs : (execOp a.eval op).run Tryd.prog w = .ok .skip (w.setCells b 0 cells) := by
      unfold execOp
      simp only [ho, hx, hy, Instr.storeAt, Instr.sureAddr, Sem.run_bind, Sem.run_pure, Result.andThen_ok, run_storeVar_mid (P := Tryd.prog) w b 0 30 cells.toArray (by rw [← hl] at ht; exact ht) (by have := size30; rw [← hl] at this; exact this) (all_oneCell_toArray h1)]
    rw [hs]
    exact hK _ _ h
theorem results10 (tmps : Array Value) (W : World) (x : Nat) (n : Int) (cs : List Value) (h2 : tmps.getD 2 undef = .pointer (some ⟨x, 0, none⟩)) (h3 : tmps.getD 3 undef = .int .i64 n) (hr : W.rangeAt x 0 cs) (hi : (Tryd.prog.info? 30).map (·.size) = some cs.length) :
    (results Tryd.f10 tmps).run Tryd.prog W = .ok (.tuple #[.agg cs.toArray, .int .i64 n]) W := by
  have h2' : tmps[2]?.getD undef = .pointer (some ⟨x, 0, none⟩) := by simpa using h2
  have h3' : tmps[3]?.getD undef = .int .i64 n := by simpa using h3
  have hres : Tryd.f10.results = #[.cell 2 30, .tmp 3] := rfl
  simp [results, hres, h2', h3', asAddr, run_loadVar_mid W x 0 30 cs _ hr Tryd.underlying30 rfl hi]
theorem VBox.put' {W : World} {x l : Nat} {cs : List Value} (h : VBox W x cs) (hne : x ≠ l) (o : Obj) : VBox (W.putObj l o) x cs := h.put hne o
/-- What stands where report.Parse ends. -/
theorem parse_end {w : World} {xs : List (List UInt8)} {y : List UInt8} {s k r : Nat} {v : Vp} {W : World} (h : PI w xs y s k r v W) (hs : w.heap.size = s) {l : Nat} (hl : s + 6 ≤ l) (hk : W.heap[l]? = some (.deferred (some []))) (cs : List Value) (hlen : cs.length = 33) :
    (W.setCells s 0 cs).heap[l]? = some (.deferred (some [])) ∧ Below w.heap.size w ((W.setCells s 0 cs).putObj l (.deferred none)) ∧ VBox ((W.setCells s 0 cs).putObj l (.deferred none)) s cs := by
  have hle := h.le
  refine ⟨(keeps_cells s cs 0 W).same _ _ hk rfl, ?_, ?_⟩
  · rw [hs]
    exact belowPut (below_cells' (Nat.le_refl s) cs 0 W h.below) (by rw [size_setCells]; omega) (by omega) _
  · exact (h.b0.all cs hlen).put (by omega) _
theorem vc_end {w : World} {xs : List (List UInt8)} {y : List UInt8} {s k r : Nat} {v : Vp} {W : World} (h : PI w xs y s k r v W) {l : Nat} (hl : s + 6 ≤ l) (hk : W.heap[l]? = some (.deferred (some []))) (cs : List Value) {p q : Option Addr} {c d : Nat}
    (hb : Bytes W p v.out) (hp : ∀ (k : Nat) a, k < v.out.length → p = some a → s + 6 ≤ a.block ∧ (Value.slice q v.log.length d).ownBlock ≠ some a.block) (ho : W.ownsRow (s + 6) 49 3 (.slice q v.log.length d) v.log.length (v.log.flatMap ecl)) :
    VC ((W.setCells s 0 cs).putObj l (.deferred none)) (vcs v p c q d) v := by
  have e1 := (keeps_cells s cs 0 W).same _ _ hk rfl
  have o1 := ho.kept (grown_cells s cs 0 W) (.inr (ownNe ho (by omega)).symm)
  have o2 : ((W.setCells s 0 cs).putObj l (.deferred none)).ownsRow (s + 6) 49 3 (.slice q v.log.length d) v.log.length (v.log.flatMap ecl) := ownsRow_putObj o1 _ e1 rfl
  refine ⟨h.wf, p, c, q, d, rfl, ?_, evs_of_row o2 rfl⟩
  have b1 := hb.cells (x := s) (fun k a hk ha => by have := (hp k a hk ha).1; omega) cs 0
  intro k z hz
  obtain ⟨a, h1, h2, h3⟩ := b1 k z hz
  have hne : (a.add k).block ≠ l := fun e => by
    unfold World.cell? at h3
    rw [e, e1] at h3
    cases h3
  exact ⟨a, h1, by rw [size_putObj']; exact h2, by rw [cell_putObj hne]; exact h3⟩
theorem fmtE_eq (v : Vp) : (fmtE v == 0) = fOk v := by
  unfold fmtE
  cases fOk v <;> rfl
set_option maxRecDepth 100000 in
set_option maxHeartbeats 8000000 in
theorem parse_go (xs : List (List UInt8)) (y : List UInt8) (hxs : ∀ x ∈ xs, (10 : UInt8) ∉ x) (hy : (10 : UInt8) ∉ y) (hlen : (glue xs y).length < 1000000) (w : World) (hE : Env w) :
    Calls Tryd.prog 10 #[.string ⟨(glue xs y).toArray⟩] w fun e w' => Below w.heap.size w w' ∧ ParE (readV xs y) (parseOk xs y) e w' := by
  refine (callsIn_wide (n := 5)).1 ?_
  refine callsIn_of_wp_marks Tryd.func10 rfl trivial ?_ rfl
  simp only [Tryd.ntmps10, List.size_toArray, List.length_cons, List.length_nil, Nat.reduceAdd, Nat.reduceSub, Array.replicate_succ, Array.replicate_zero, List.push_toArray, List.append_toArray, List.nil_append, List.cons_append]
  have hb : parseOk xs y = (fOk (readV xs y) && decide (fmtS (readV xs y) = ⟨(glue xs y).toArray⟩)) := rfl
  obtain ⟨B, hB⟩ : ∃ B, parseOk xs y = B := ⟨_, rfl⟩
  rw [hB] at hb ⊢
  obtain ⟨V, hV⟩ : ∃ V, readV xs y = V := ⟨_, rfl⟩
  rw [hV] at hb
  rw [hV]
  obtain ⟨S, hS⟩ : ∃ S : ByteArray, ⟨(glue xs y).toArray⟩ = S := ⟨_, rfl⟩
  rw [hS] at hb
  rw [hS]
  gi_wp2_with (refine ⟨trivial, ?_⟩; gi_at_call 22; refine (callsIn_wide.2 (seq_any _ _)).mono ?_; rintro e w' ⟨rfl, rfl⟩)
  obtain ⟨s, hs0⟩ : ∃ s, w.heap.size = s := ⟨_, rfl⟩
  have hs0' := Lib.hid hs0
  simp only [hs0]
  obtain ⟨W0, hW0⟩ : ∃ W0, ((((((w.alloc (.cells #[Value.int .u32 0, Value.int .u32 0, Value.int .u32 0, Value.int .u32 0, Value.int .u32 0, Value.int .u32 0, Value.int .u32 0, Value.int .u32 0, Value.int .u32 0, Value.int .u32 0, Value.int .u32 0, Value.int .u32 0, Value.int .u32 0, Value.int .u32 0, Value.int .u32 0, Value.int .u32 0, Value.int .u32 0, Value.int .u32 0, Value.int .u32 0, Value.int .u32 0, Value.int .u32 0, Value.int .u32 0, Value.int .u32 0, Value.int .u32 0, Value.int .u32 0, Value.int .u32 0, Value.int .u32 0, Value.int .u32 0, Value.int .u32 0, .slice none 0 0, .bool false, .int .i64 0, .slice none 0 0] 30)).alloc (.cells #[Value.int .u32 0, Value.int .u32 0, Value.int .u32 0, Value.int .u32 0, Value.int .u32 0, Value.int .u32 0, Value.int .u32 0, Value.int .u32 0, Value.int .u32 0, Value.int .u32 0, Value.int .u32 0, Value.int .u32 0, Value.int .u32 0, Value.int .u32 0, Value.int .u32 0, Value.int .u32 0, Value.int .u32 0, Value.int .u32 0, Value.int .u32 0, Value.int .u32 0, Value.int .u32 0, Value.int .u32 0, Value.int .u32 0, Value.int .u32 0, Value.int .u32 0, Value.int .u32 0, Value.int .u32 0, Value.int .u32 0, Value.int .u32 0, .slice none 0 0, .bool false, .int .i64 0, .slice none 0 0] 30)).alloc (.cells #[.int .i64 0] 3)).alloc (.cells #[.string S] 9)).alloc (.cells #[.string ⟨#[10]⟩] 9)).alloc (.cells #[.int .i64 1] 3)) = W0 := ⟨_, rfl⟩
  rw [hW0]
  have hA0 := Lib.hid (pi_start w hE xs y hs0'.out (W0 := W0) (by rw [hS]; exact hW0))
  clear hW0 hs0
  obtain ⟨z0, hA⟩ := hA0.out
  have hE' := Lib.hid hE
  have hn : xs.length ≤ 1000000 ∧ y.length ≤ 1000000 := by have := len_glue xs y; omega
  have hlx : ∀ x ∈ xs, x.length ≤ 1000000 := fun x hx => by have := mem_glue xs y x hx; omega
  have hlg : ∀ k, k ≤ xs.length → (foldV 0 zeroV (xs.take k)).log.length ≤ 1000000 := fun k hk => by
    have := foldV_log (xs.take k) 0 zeroV
    rw [List.length_take] at this
    have h0 : zeroV.log.length = 0 := rfl
    omega
  have hput : ∀ k r v W q q', PI w xs y s k r v W → W.heap[W0.heap.size + 1]? = some (.loop q) → PI w xs y s k r v (W.putObj (W0.heap.size + 1) (.loop q')) := fun k r v W q q' h hl => h.put hl (by omega) _
  refine range_lines (s + 1 + 1 + 1 + 1) (s + 1 + 1 + 1) (s + 1 + 1 + 1 + 1 + 1) xs y hxs hy (by omega) rfl rfl
    (fun k r W => PI w xs y s k r (foldV 0 zeroV (xs.take k)) W) (fun W => PI w xs y s (xs.length + 1) xs.length V W)
    (fun k r W h => ⟨h.bp, h.bs, h.b1⟩) (fun k W h => h.next) (fun k r W q q' h hl => hput _ _ _ _ _ _ h hl) (fun W q q' h hl => hput _ _ _ _ _ _ h hl) (fun q => (hA.alloc _).alloc _)
    (fun t => pframe S t s) ?assign ?body ?last ?done
  case assign =>
    intro t W K hK
    gi_wp2
    exact hK
  case body =>
    intro k x W hk hI
    have hkl := (List.getElem?_eq_some_iff.1 hk).1
    have hxm : x ∈ xs := List.mem_of_getElem? hk
    have T := fun w => Tryd.strings_TrimSuffix ⟨(x ++ [10]).toArray⟩ ⟨#[10]⟩ w (by show (x ++ [10]).length ≤ _; rw [List.length_append, List.length_singleton]; have := hlx x hxm; omega)
    have T : ∀ w, Calls Tryd.prog 24 #[.string ⟨(x ++ [10]).toArray⟩, .string ⟨#[10]⟩] w fun e w' => e = .returned (.string ⟨(Lib.trimSuffix (x ++ [10]) [10]).toArray⟩) ∧ w' = w := T
    rw [trim_line] at T
    have hst : foldV 0 zeroV (xs.take (k + 1)) = stepV k (foldV 0 zeroV (xs.take k)) (pcs x) := by
      rw [List.take_add_one, hk, Option.toList_some, foldV_snoc, List.length_take, Nat.min_eq_left (by omega), Nat.zero_add]
    rw [hst]
    exact round_any hI S _ x (hlx x hxm) T (by omega) (hlg k (by omega))
  case last =>
    intro W hI
    have T := fun w => Tryd.strings_TrimSuffix ⟨y.toArray⟩ ⟨#[10]⟩ w (by show y.length ≤ _; omega)
    have T : ∀ w, Calls Tryd.prog 24 #[.string ⟨y.toArray⟩, .string ⟨#[10]⟩] w fun e w' => e = .returned (.string ⟨(Lib.trimSuffix y [10]).toArray⟩) ∧ w' = w := T
    rw [trim_rest y hy] at T
    have hst : V = stepV xs.length (foldV 0 zeroV (xs.take xs.length)) (pcs y) := by
      rw [← hV]
      unfold readV
      rw [foldV_snoc, List.take_length, Nat.zero_add]
    rw [hst]
    exact round_any hI S _ y hn.2 T hn.1 (hlg _ (Nat.le_refl _))
  case done =>
    intro W hI hK
    obtain ⟨p, c, q, d, v1, v2, v3, v4⟩ := hI.bv
    have hwf := hI.wf
    have ho : V.out.length ≤ 1000000 := hV ▸ foldV_out _ _ _ _ (Nat.zero_le _) (fun x hx => by
      rcases List.mem_append.1 hx with hx | hx
      · exact hlx x hx
      · rw [List.mem_singleton] at hx; subst hx; exact hn.2)
    have hl : V.log.length ≤ 1000000 := by
      have := foldV_log (xs ++ [y]) 0 zeroV
      have h0 : zeroV.log.length = 0 := rfl
      have h2 := len_glue xs y
      have h3 : (xs ++ [y]).length = xs.length + 1 := by simp
      unfold readV at hV
      rw [← hV]
      omega
    have hvc : VC W (vcs V p c q d) V := ⟨hwf, p, c, q, d, rfl, v2, evs_of_row v4 rfl⟩
    have hone := vcs_one V p c q d
    have hlen33 := vcs_len hwf p c q d
    have F := Lib.hid (format_any (vcs V p c q d) V W hI.env hvc ho hl)
    have HI := Lib.hid hI
    obtain ⟨cs, hcs⟩ : ∃ cs, vcs V p c q d = cs := ⟨_, rfl⟩
    have HC := Lib.hid hcs
    rw [hcs] at v1 hone hlen33 F
    have hi33 : (Tryd.prog.info? 30).map (·.size) = some cs.length := by rw [hlen33]; exact size30
    have HV := Lib.hid v1
    have HB := Lib.hid v2
    have HR := Lib.hid v4
    have H3 := Lib.hid v3
    have hK := Lib.hid hK
    clear hcs hvc v1 v2 v3 v4 hV hI
    obtain ⟨fs, hfs⟩ : ∃ f, fmtS V = f := ⟨_, rfl⟩
    rw [hfs] at F hb
    have hE01 : (fmtE V = 0 ∧ fOk V = true) ∨ (fmtE V = 1 ∧ fOk V = false) := by
      unfold fmtE
      cases fOk V
      · exact .inr ⟨rfl, rfl⟩
      · exact .inl ⟨rfl, rfl⟩
    have zs1 : s + 1 ≠ s := by omega
    cases B with
    | true =>
      obtain ⟨q1, q2⟩ := Bool.and_eq_true _ _ ▸ hb.symm
      have q2 := of_decide_eq_true q2
      subst q2
      rcases hE01 with ⟨e1, _⟩ | ⟨_, e2⟩
      case inr => rw [e2] at q1; cases q1
      rw [e1] at F
      clear hb q1 hfs zs1 hput hlg hlx hwf ho hl e1
      have r1 : (fs.toList == fs.toList) = true := beq_self_eq_true _
      gi_wp2_with (first
        | (refine wpListIn_load_mid rfl 30 (.tmp 4) rfl (s + 1) 0 rfl cs _ HV.out.range Tryd.underlying30 rfl hi33 ?_)
        | (refine ⟨trivial, ?_⟩; gi_at_call 8; refine (callsIn_wide.2 F.out).mono ?_; rintro e W2 ⟨rfl, hb2⟩; have HV2 := Lib.hid (HV.out.later hb2); have HI2 := Lib.hid (HI.out.later hb2))
        | (refine wpListIn_load_mid rfl 30 (.tmp 4) rfl (s + 1) 0 rfl cs _ HV2.out.range Tryd.underlying30 rfl hi33 ?_)
        | (refine wpListIn_store_mid rfl (.tmp 2) (.tmp 70) rfl s cs rfl rfl HI2.out.b0.there hlen33 hone ?_))
      clear HV
      have hK2 := (keeps_later hb2).same _ _ hK.out rfl
      have hv2 := HB.out.later hb2
      have ho2 := HR.out.kept (grown_of_below hb2) (by cases (Value.slice q V.log.length d).ownBlock <;> simp)
      rw [z0] at hK2
      obtain ⟨m1, m2, m3⟩ := parse_end HI2.out hs0'.out (by omega) hK2 cs hlen33
      have m4 := vc_end HI2.out (by omega) hK2 cs (c := c) hv2 H3.out ho2
      rw [HC.out] at m4
      refine ⟨by simp, .inl ⟨_, _, rfl, run_takeDeferred m1, ?_⟩⟩
      exact ⟨.tuple #[.agg cs.toArray, .int .i64 0], results10 _ _ s 0 cs rfl rfl m3.range hi33, m2, cs, m4, rfl⟩
    | false =>
      have hbad : fmtE V = 1 ∨ (fmtE V = 0 ∧ (fs.toList == S.toList) = false) := by
        rcases hE01 with ⟨e1, e2⟩ | ⟨e1, _⟩
        · right
          rw [e2, Bool.true_and] at hb
          exact ⟨e1, toList_beq (of_decide_eq_false hb.symm)⟩
        · exact .inl e1
      clear hb hfs zs1 hput hlg hlx hwf ho hl hE01
      have hone0 := fl_one none 0 0 false
      have hi33z : (Tryd.prog.info? 30).map (·.size) = some (fl (.slice none 0 0) false).length := size30
      rcases hbad with e1 | ⟨e1, q1⟩
      all_goals
        rw [e1] at F
        clear e1
        gi_wp2_with (first
          | (refine wpListIn_load_mid rfl 30 (.tmp 4) rfl (s + 1) 0 rfl cs _ HV.out.range Tryd.underlying30 rfl hi33 ?_)
          | (refine ⟨trivial, ?_⟩; gi_at_call 8; refine (callsIn_wide.2 F.out).mono ?_; rintro e W2 ⟨rfl, hb2⟩; have HI2 := Lib.hid (HI.out.later hb2))
          | (refine wpListIn_store_mid rfl (.tmp 2) (.tmp 69) rfl s (fl (.slice none 0 0) false) rfl rfl HI2.out.b0.there rfl hone0 ?_))
        clear HV
        have hK2 := (keeps_later hb2).same _ _ hK.out rfl
        rw [z0] at hK2
        obtain ⟨m1, m2, m3⟩ := parse_end HI2.out hs0'.out (by omega) hK2 (fl (.slice none 0 0) false) rfl
        refine ⟨by simp, .inl ⟨_, _, rfl, run_takeDeferred m1, ?_⟩⟩
        exact ⟨.tuple #[.agg (fl (.slice none 0 0) false).toArray, .int .i64 2], results10 _ _ s 2 (fl (.slice none 0 0) false) rfl rfl m3.range hi33z, m2, fl (.slice none 0 0) false, ⟨zeroV_wf, none, 0, none, 0, fl_zero, fun k c hk => (by cases hk), fun k e hk => (by cases hk)⟩, rfl⟩
end Go.Proofs.YtnfkimhhgflfjaaDoor.Rep
