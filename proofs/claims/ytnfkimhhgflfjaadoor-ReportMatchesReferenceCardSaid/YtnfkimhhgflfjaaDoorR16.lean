/- What report.Parse reads out of a report: plain. -/
import Derived.Test.YtnfkimhhgflfjaaDoorR15
namespace Go.Proofs.YtnfkimhhgflfjaaDoor.Rep
open Go Go.RowKit Go.Shelf
set_option linter.unusedVariables false
set_option linter.unusedSimpArgs false
/-! ### Numerals read back -/
theorem u8_of {d : Nat} (h : d < 10) : (UInt8.ofNat (48 + d)).toNat = 48 + d := by
  rw [UInt8.toNat_ofNat']
  omega
theorem pM_snoc (M : Nat) (c : UInt8) (d : Nat) (hc : c.toNat = 48 + d) (hd : d < 10) :
    ∀ (l : List UInt8) (acc m : Nat), Lib.parseUintM M acc l = .ok m → m < 1844674407370955162 → m * 10 + d ≤ M → Lib.parseUintM M acc (l ++ [c]) = .ok (m * 10 + d)
  | [], acc, m, h, hm, hM' => by
    simp only [Lib.parseUintM] at h
    injection h with h
    subst h
    simp only [List.nil_append, Lib.parseUintM]
    rw [if_pos (by omega), if_neg (by omega), if_neg (by omega)]
    congr 1
    omega
  | b :: l, acc, m, h, hm, hM' => by
    simp only [List.cons_append, Lib.parseUintM] at h ⊢
    split at h
    · rename_i h1
      rw [if_pos h1]
      split at h
      · cases h
      · rename_i h2
        rw [if_neg h2]
        split at h
        · cases h
        · rename_i h3
          rw [if_neg h3]
          exact pM_snoc M c d hc hd l _ _ h hm hM'
    · cases h
theorem pM_dec (M : Nat) (hM : M ≤ 18446744073709551615) (n : Nat) (hn : n ≤ M) : Lib.parseUintM M 0 (Lib.decDigits n) = .ok n := by
  induction n using Nat.strongRecOn with
  | _ n ih =>
    by_cases h : n < 10
    · rw [Lib.decDigits_one h]
      have := pM_snoc M (UInt8.ofNat (48 + n)) n (u8_of h) h [] 0 0 rfl (by omega) (by omega)
      simpa using this
    · rw [Lib.decDigits, dif_neg h]
      have := pM_snoc M (UInt8.ofNat (48 + n % 10)) (n % 10) (u8_of (by omega)) (by omega) _ 0 (n / 10) (ih (n / 10) (by omega) (by omega)) (by omega) (by omega)
      rw [this]
      congr 1
      omega
theorem dec_digit (n : Nat) : ∀ c ∈ Lib.decDigits n, 48 ≤ c.toNat ∧ c.toNat ≤ 57 := by
  induction n using Nat.strongRecOn with
  | _ n ih =>
    intro c hc
    by_cases h : n < 10
    · rw [Lib.decDigits_one h, List.mem_singleton] at hc
      subst hc
      rw [u8_of h]; omega
    · rw [Lib.decDigits, dif_neg h, List.mem_append, List.mem_singleton] at hc
      rcases hc with hc | rfl
      · exact ih (n / 10) (by omega) c hc
      · rw [u8_of (by omega)]; omega
theorem dec_ne (n : Nat) : Lib.decDigits n ≠ [] := by
  intro h
  have := Lib.decDigits_length n
  rw [h] at this
  have := Lib.nDigits_pos n
  simp at *
  omega
theorem dec_cons (n : Nat) : ∃ c r, Lib.decDigits n = c :: r ∧ 48 ≤ c.toNat ∧ c.toNat ≤ 57 := by
  cases h : Lib.decDigits n with
  | nil => exact absurd h (dec_ne n)
  | cons c r => exact ⟨c, r, rfl, dec_digit n c (by rw [h]; exact List.mem_cons_self)⟩
theorem pB_dec (B n : Nat) (hB : 2 ^ B - 1 ≤ 18446744073709551615) (hn : n ≤ 2 ^ B - 1) : Lib.parseUintB B (Lib.decDigits n) = .ok n := by
  rw [Lib.parseUintB, if_neg (dec_ne n), pM_dec _ hB n hn]
/-! ### Fields joined and split -/
theorem index_at (x y : List UInt8) (c : UInt8) (h : c ∉ x) : Lib.index (x ++ c :: y) [c] = (x.length : Int) := by
  induction x with
  | nil => rw [List.nil_append, Lib.index]; simp [List.isPrefixOf]
  | cons b l ih =>
    have h1 : b ≠ c := fun e => h (by rw [e]; exact List.mem_cons_self)
    have ih := ih (fun g => h (List.mem_cons_of_mem _ g))
    have hp : ([c] : List UInt8).isPrefixOf (b :: (l ++ c :: y)) = false := by simp [List.isPrefixOf, Ne.symm h1]
    rw [List.cons_append, Lib.index, hp, ih]
    rw [if_neg (by simp), if_neg (fun e => by have := beq_iff_eq.1 e; omega), List.length_cons]
    omega
theorem index_no (x : List UInt8) (c : UInt8) (h : c ∉ x) : Lib.index x [c] = -1 := by
  induction x with
  | nil => simp [Lib.index]
  | cons b l ih =>
    have h1 : b ≠ c := fun e => h (by rw [e]; exact List.mem_cons_self)
    have ih := ih (fun g => h (List.mem_cons_of_mem _ g))
    have hp : ([c] : List UInt8).isPrefixOf (b :: l) = false := by simp [List.isPrefixOf, Ne.symm h1]
    rw [Lib.index, hp, ih]
    simp
theorem join_cons (x y : List UInt8) (r : List (List UInt8)) (s : List UInt8) : Lib.join (x :: y :: r) s = x ++ (s ++ Lib.join (y :: r) s) := by
  simp [Lib.join, List.intercalate]
theorem split_join (c : UInt8) : ∀ (r : List (List UInt8)) (x : List UInt8), (∀ z ∈ x :: r, c ∉ z) → (Lib.join (x :: r) [c]).count c = r.length ∧ Lib.splitK [c] 0 r.length (Lib.join (x :: r) [c]) = x :: r
  | [], x, h => by
    have hx := h x List.mem_cons_self
    have e : Lib.join [x] [c] = x := by simp [Lib.join, List.intercalate]
    rw [e]
    exact ⟨List.count_eq_zero.2 hx, rfl⟩
  | y :: r, x, h => by
    have hx := h x List.mem_cons_self
    obtain ⟨i1, i2⟩ := split_join c r y (fun z hz => h z (List.mem_cons_of_mem _ hz))
    rw [join_cons, List.singleton_append]
    refine ⟨?_, ?_⟩
    · rw [List.count_append, List.count_eq_zero.2 hx, List.count_cons_self, i1, List.length_cons]
      omega
    · rw [List.length_cons, Lib.splitK, index_at _ _ _ hx]
      rw [if_neg (fun e => by have := beq_iff_eq.1 e; omega), Int.toNat_natCast, List.length_singleton, Nat.add_zero, List.take_left']
      · rw [show x ++ c :: Lib.join (y :: r) [c] = (x ++ [c]) ++ Lib.join (y :: r) [c] by simp]
        rw [List.drop_left' (by simp), i2]
      · rfl
theorem dec_no (n : Nat) (c : UInt8) (h : c.toNat < 48) : c ∉ Lib.decDigits n := fun hc => by
  have := dec_digit n c hc
  omega
theorem map_data_inj : ∀ {a b : List ByteArray}, a.map (fun x => x.data.toList) = b.map (fun x => x.data.toList) → a = b
  | [], [], _ => rfl
  | [], _ :: _, h => by simp at h
  | _ :: _, [], h => by simp at h
  | x :: a, y :: b, h => by
    simp only [List.map_cons, List.cons.injEq] at h
    rw [map_data_inj h.2, show x = y from ByteArray.ext (Array.ext' h.1)]
theorem pieces_join (l : List ByteArray) (hl : l ≠ []) (h : ∀ x ∈ l, (32 : UInt8) ∉ x.data.toList) : pieces ⟨(Lib.join (l.map (fun x => x.data.toList)) [32]).toArray⟩ = l := by
  cases l with
  | nil => exact absurd rfl hl
  | cons x r =>
    obtain ⟨h1, h2⟩ := split_join 32 (r.map (fun x => x.data.toList)) x.data.toList (fun z hz => by
      rcases List.mem_cons.1 hz with rfl | hz
      · exact h x List.mem_cons_self
      · obtain ⟨y, hy, rfl⟩ := List.mem_map.1 hz
        exact h y (List.mem_cons_of_mem _ hy))
    apply map_data_inj
    unfold pieces
    rw [Lib.splitB_data]
    have e : Lib.countB ⟨(Lib.join ((x :: r).map (fun x => x.data.toList)) [32]).toArray⟩ ⟨#[32]⟩ = (r.map (fun x => x.data.toList)).length := by
      show Lib.count _ [32] = _
      rw [Lib.count_one]
      exact h1
    rw [e]
    exact h2
/-! ### A text read back -/
theorem pcs_join (l : List (List UInt8)) (hl : l ≠ []) (h : ∀ x ∈ l, (32 : UInt8) ∉ x) : pcs (Lib.join l [32]) = l := by
  unfold pcs
  have e : l = (l.map (fun x => (⟨x.toArray⟩ : ByteArray))).map (fun b => b.data.toList) := by
    rw [List.map_map]
    conv => lhs; rw [← List.map_id l]
    rfl
  have := pieces_join (l.map (fun x => (⟨x.toArray⟩ : ByteArray))) (by simpa using hl) (fun x hx => by
    obtain ⟨y, hy, rfl⟩ := List.mem_map.1 hx
    exact h y hy)
  rw [← e] at this
  rw [this, ← e]
/-- A text's lines, and what stands behind the last line's end. -/
def splitL : List UInt8 → List (List UInt8) × List UInt8
  | [] => ([], [])
  | c :: l => if c = 10 then ([] :: (splitL l).1, (splitL l).2) else match (splitL l).1 with
    | [] => ([], c :: (splitL l).2)
    | x :: xs => ((c :: x) :: xs, (splitL l).2)
theorem splitL_glue : ∀ s : List UInt8, glue (splitL s).1 (splitL s).2 = s
  | [] => rfl
  | c :: l => by
    have ih := splitL_glue l
    unfold splitL
    split
    · rename_i h
      subst h
      rw [glue_cons, ih]
      rfl
    · split
      · rename_i h
        rw [h, glue_nil] at ih
        rw [glue_nil, ih]
      · rename_i x xs h
        rw [h, glue_cons] at ih
        show glue ((c :: x) :: xs) (splitL l).2 = c :: l
        rw [glue_cons, List.cons_append, ih]
theorem splitL_no : ∀ s : List UInt8, (∀ x ∈ (splitL s).1, (10 : UInt8) ∉ x) ∧ (10 : UInt8) ∉ (splitL s).2
  | [] => ⟨fun x hx => (by cases hx), by simp [splitL]⟩
  | c :: l => by
    obtain ⟨h1, h2⟩ := splitL_no l
    unfold splitL
    split
    · refine ⟨fun x hx => ?_, h2⟩
      rcases List.mem_cons.1 hx with rfl | hx
      · simp
      · exact h1 x hx
    · rename_i hc
      split
      · refine ⟨fun x hx => (by cases hx), ?_⟩
        rw [List.mem_cons]
        rintro (e | e)
        · exact hc e.symm
        · exact h2 e
      · rename_i x xs h
        rw [h] at h1
        refine ⟨fun z hz => ?_, h2⟩
        rcases List.mem_cons.1 hz with rfl | hz
        · rw [List.mem_cons]
          rintro (e | e)
          · exact hc e.symm
          · exact h1 x List.mem_cons_self e
        · exact h1 z (List.mem_cons_of_mem _ hz)
theorem splitL_rest : ∀ y : List UInt8, (10 : UInt8) ∉ y → splitL y = ([], y)
  | [], _ => rfl
  | c :: y, h => by
    have ih := splitL_rest y (fun e => h (List.mem_cons_of_mem _ e))
    unfold splitL
    rw [if_neg (fun e => h (by rw [e]; exact List.mem_cons_self)), ih]
theorem splitL_line : ∀ (x l : List UInt8), (10 : UInt8) ∉ x → splitL (x ++ 10 :: l) = (x :: (splitL l).1, (splitL l).2)
  | [], l, _ => by rw [List.nil_append, splitL, if_pos rfl]
  | c :: x, l, h => by
    have ih := splitL_line x l (fun e => h (List.mem_cons_of_mem _ e))
    rw [List.cons_append, splitL, if_neg (fun e => h (by rw [e]; exact List.mem_cons_self)), ih]
theorem splitL_of : ∀ (xs : List (List UInt8)) (y : List UInt8), (∀ x ∈ xs, (10 : UInt8) ∉ x) → (10 : UInt8) ∉ y → splitL (glue xs y) = (xs, y)
  | [], y, _, hy => splitL_rest y hy
  | x :: xs, y, hx, hy => by rw [glue_cons, splitL_line x _ (hx x List.mem_cons_self), splitL_of xs y (fun z hz => hx z (List.mem_cons_of_mem _ hz)) hy]
/-- What report.Parse reads out of a text. -/
def readS (s : List UInt8) : Vp := readV (splitL s).1 (splitL s).2
def okS (s : List UInt8) : Bool := fOk (readS s) && decide (fmtS (readS s) = ⟨s.toArray⟩)
theorem parse_any (s : List UInt8) (hlen : s.length < 1000000) (w : World) (hE : Env w) :
    Calls Tryd.prog 10 #[.string ⟨s.toArray⟩] w fun e w' => Below w.heap.size w w' ∧ ParE (readS s) (okS s) e w' := by
  obtain ⟨h1, h2⟩ := splitL_no s
  have := parse_go (splitL s).1 (splitL s).2 h1 h2 (by rw [splitL_glue]; exact hlen) w hE
  have e : parseOk (splitL s).1 (splitL s).2 = okS s := by unfold parseOk okS readS; rw [splitL_glue]
  rw [splitL_glue, e] at this
  exact this
/-- The printed part of a virtual CPU. -/
def bareV (v : Vp) : Vp := { regs := List.replicate 16 0, pc := v.pc, csr := List.replicate 12 0, out := v.out, halted := v.halted, done := v.done, log := v.log }
def linesV (v : Vp) : List (List UInt8) := Lib.join (headL v) [32] :: v.log.map (fun e => Lib.join (evL e) [32])
theorem text_glue (v : Vp) : textL v = glue (linesV v) [] := by
  have : ∀ l : List Ev, l.flatMap (fun e => lineS (evL e)) = (l.map (fun e => Lib.join (evL e) [32])).flatMap (fun x => x ++ [10]) := by
    intro l
    induction l with
    | nil => rfl
    | cons e l ih => rw [List.flatMap_cons, List.map_cons, List.flatMap_cons, ih]; rfl
  unfold textL linesV glue
  rw [this, List.flatMap_cons, List.append_nil]
  rfl
theorem hexd_no : ∀ d : Nat, d < 16 → hexd d ≠ 10 ∧ hexd d ≠ 32 := by decide +kernel
theorem hexF_no : ∀ (l : List UInt8) (c : UInt8), c = 10 ∨ c = 32 → c ∉ hexF l
  | [], _, _ => by simp [hexF]
  | b :: l, c, hc => by
    have h1 := hexd_no (b.toNat / 16) (by have := b.toNat_lt; omega)
    have h2 := hexd_no (b.toNat % 16) (by omega)
    rw [hexF, List.mem_cons, List.mem_cons]
    rintro (e | e | e)
    · rcases hc with rfl | rfl
      · exact h1.1 e.symm
      · exact h1.2 e.symm
    · rcases hc with rfl | rfl
      · exact h2.1 e.symm
      · exact h2.2 e.symm
    · exact hexF_no l c hc e
theorem hexS_no (l : List UInt8) (c : UInt8) (hc : c = 10 ∨ c = 32) : c ∉ hexS l := by
  unfold hexS
  split
  · rcases hc with rfl | rfl <;> decide
  · exact hexF_no l c hc
theorem dec_no2 (n : Nat) (c : UInt8) (hc : c = 10 ∨ c = 32) : c ∉ Lib.decDigits n := dec_no n c (by rcases hc with rfl | rfl <;> decide)
theorem head_no (v : Vp) (c : UInt8) (hc : c = 10 ∨ c = 32) : ∀ x ∈ headL v, c ∉ x := by
  intro x hx
  simp only [headL, List.mem_cons, List.not_mem_nil, or_false] at hx
  rcases hx with rfl | rfl | rfl | rfl | rfl
  · rcases hc with rfl | rfl <;> decide
  · exact dec_no2 _ c hc
  · exact dec_no2 _ c hc
  · unfold howS; split <;> rcases hc with rfl | rfl <;> decide
  · exact hexS_no _ c hc
theorem words_no (k : Nat) (c : UInt8) (hc : c = 10 ∨ c = 32) : c ∉ wordsL.getD k [] := by
  match k with
  | 0 => simp [wordsL]
  | 1 => rcases hc with rfl | rfl <;> decide
  | 2 => rcases hc with rfl | rfl <;> decide
  | 3 => rcases hc with rfl | rfl <;> decide
  | n + 4 => simp [wordsL]
theorem ev_no (e : Ev) (c : UInt8) (hc : c = 10 ∨ c = 32) : ∀ x ∈ evL e, c ∉ x := by
  intro x hx
  simp only [evL, List.mem_cons, List.not_mem_nil, or_false] at hx
  rcases hx with rfl | rfl | rfl
  · exact words_no _ c hc
  · exact dec_no2 _ c hc
  · exact dec_no2 _ c hc
theorem join_no : ∀ (l : List (List UInt8)) (c : UInt8), c ≠ 32 → (∀ x ∈ l, c ∉ x) → c ∉ Lib.join l [32]
  | [], c, _, _ => by simp [Lib.join, List.intercalate]
  | [x], c, _, h => by
    rw [show Lib.join [x] [32] = x by simp [Lib.join, List.intercalate]]
    exact h x List.mem_cons_self
  | x :: y :: r, c, hc, h => by
    rw [join_cons, List.mem_append, List.mem_append, List.mem_singleton]
    rintro (e | e | e)
    · exact h x List.mem_cons_self e
    · exact hc e
    · exact join_no (y :: r) c hc (fun z hz => h z (List.mem_cons_of_mem _ hz)) e
theorem lines_no (v : Vp) : ∀ x ∈ linesV v, (10 : UInt8) ∉ x := by
  intro x hx
  unfold linesV at hx
  rcases List.mem_cons.1 hx with rfl | hx
  · exact join_no _ _ (by decide) (head_no v 10 (.inl rfl))
  · obtain ⟨e, _, rfl⟩ := List.mem_map.1 hx
    exact join_no _ _ (by decide) (ev_no e 10 (.inl rfl))
theorem split_text (v : Vp) : splitL (textL v) = (linesV v, []) := by
  rw [text_glue]
  exact splitL_of _ _ (lines_no v) (by simp)
theorem readN_dec (n : Nat) (h : n ≤ 18446744073709551615) : readN (Lib.decDigits n) = n := by
  unfold readN
  rw [pB_dec 64 n (by decide) (by simpa using h)]
theorem pv_hexd : ∀ n : Nat, n < 256 → pv (hexd (n / 16)) (hexd (n % 16)) = UInt8.ofNat n := by decide +kernel
theorem unhex_hexF : ∀ l : List UInt8, unhexL (hexF l) = l
  | [] => rfl
  | c :: l => by rw [hexF, unhexL, unhex_hexF l, pv_hexd c.toNat c.toNat_lt, UInt8.ofNat_toNat]
theorem unhex_hexS (l : List UInt8) : unhexL (hexS l) = l := by
  unfold hexS
  split
  · rename_i h; rw [h]; rfl
  · exact unhex_hexF l
theorem how_read (h : Bool) : decide (howS h = [104, 97, 108, 116, 101, 100]) = h := by cases h <;> rfl
theorem kind_word : ∀ k : Nat, 1 ≤ k → k ≤ 3 → kindI (wordsL.getD k []) = (k : Int) := fun k h1 h2 => kindI_yes _ k (by omega) rfl
/-- What a report's events fulfil. -/
theorem vld_each : ∀ (l : List Ev) (done last : Int), -1 ≤ last → vldL done last l = true → ∀ e ∈ l, 1 ≤ e.kind ∧ e.kind ≤ 3 ∧ 0 ≤ e.pos ∧ e.pos < done
  | [], _, _, _, _ => fun e he => by cases he
  | e :: r, done, last, hl, h => fun x hx => by
    unfold vldL at h
    split at h
    · cases h
    · rename_i hc
      have hb : 1 ≤ e.kind ∧ e.kind ≤ 3 ∧ 0 ≤ e.pos ∧ e.pos < done := by omega
      rcases List.mem_cons.1 hx with rfl | hx
      · exact hb
      · exact vld_each r done e.pos (by omega) h x hx
theorem fOk_parts {v : Vp} (h : fOk v = true) : (v.regs.getD 0 0 = 0 ∧ v.csr.getD 7 0 = 0 ∧ v.csr.getD 8 0 = 0 ∧ 0 ≤ v.done) ∧ vldL v.done (-1) v.log = true ∧ v.done ≤ 1099511627776 := by
  unfold fOk vOk hdOk at h
  simp only [Bool.and_eq_true, decide_eq_true_eq] at h
  exact ⟨h.1.1, h.1.2, h.2⟩
theorem fOk_bare {v : Vp} (h : fOk v = true) : fOk (bareV v) = true := by
  obtain ⟨h1, h2, h3⟩ := fOk_parts h
  unfold fOk vOk hdOk
  simp only [Bool.and_eq_true, decide_eq_true_eq]
  exact ⟨⟨⟨rfl, rfl, rfl, h1.2.2.2⟩, h2⟩, h3⟩
theorem text_bare (v : Vp) : textL (bareV v) = textL v := rfl
theorem ev_read {e : Ev} (hw : e.wf) (h : 1 ≤ e.kind ∧ e.kind ≤ 3 ∧ 0 ≤ e.pos ∧ e.pos < 1099511627776) : evV (evL e) = e := by
  obtain ⟨k, p, t⟩ := e
  unfold Ev.wf at hw
  dsimp only at hw h
  obtain ⟨k', rfl⟩ := Int.eq_ofNat_of_zero_le (show 0 ≤ k by omega)
  obtain ⟨p', rfl⟩ := Int.eq_ofNat_of_zero_le h.2.2.1
  obtain ⟨t', rfl⟩ := Int.eq_ofNat_of_zero_le hw.2.2.1
  unfold evV evL
  simp only [List.getD_cons_zero, List.getD_cons_succ, Int.toNat_natCast]
  rw [kind_word k' (by omega) (by omega), readN_dec p' (by omega), readN_dec t' (by omega)]
  simp only [Ev.mk.injEq, true_and, and_true]
  omega
theorem fold_log : ∀ (l : List Ev) (k : Nat) (v : Vp), 0 < k → (∀ e ∈ l, e.wf ∧ 1 ≤ e.kind ∧ e.kind ≤ 3 ∧ 0 ≤ e.pos ∧ e.pos < 1099511627776) → foldV k v (l.map (fun e => Lib.join (evL e) [32])) = { v with log := v.log ++ l }
  | [], k, v, _, _ => by rw [List.map_nil, foldV, List.append_nil]
  | e :: l, k, v, hk, h => by
    obtain ⟨h1, h2⟩ := h e List.mem_cons_self
    rw [List.map_cons, foldV, pcs_join (evL e) (by simp [evL]) (ev_no e 32 (.inr rfl))]
    rw [show stepV k v (evL e) = { v with log := v.log ++ [e] } by
      unfold stepV
      rw [if_neg (by omega), if_pos ⟨hk, rfl⟩, ev_read h1 h2]]
    rw [fold_log l (k + 1) _ (by omega) (fun x hx => h x (List.mem_cons_of_mem _ hx))]
    simp
theorem read_text {v : Vp} (hw : v.wf) (h : fOk v = true) : readS (textL v) = bareV v := by
  obtain ⟨h1, h2, h3⟩ := fOk_parts h
  have hev : ∀ e ∈ v.log, e.wf ∧ 1 ≤ e.kind ∧ e.kind ≤ 3 ∧ 0 ≤ e.pos ∧ e.pos < 1099511627776 := fun e he => by
    have := vld_each v.log v.done (-1) (by omega) h2 e he
    exact ⟨hw.log e he, this.1, this.2.1, this.2.2.1, by omega⟩
  have hpc := hw.pc
  unfold w32 at hpc
  unfold readS readV
  rw [split_text]
  dsimp only
  rw [foldV_snoc]
  have e0 : pcs [] = [[]] := by
    have := pcs_join [[]] (by simp) (by simp)
    rwa [show Lib.join [[]] [32] = [] by simp [Lib.join, List.intercalate]] at this
  rw [e0]
  unfold linesV
  rw [foldV, pcs_join (headL v) (by simp [headL]) (head_no v 32 (.inr rfl))]
  have hf : stepV 0 zeroV (headL v) = { bareV v with log := [] } := by
    unfold stepV
    rw [if_pos ⟨rfl, rfl⟩]
    unfold firstV headL bareV
    simp only [List.getD_cons_zero, List.getD_cons_succ]
    obtain ⟨d, hd⟩ := Int.eq_ofNat_of_zero_le h1.2.2.2
    obtain ⟨p, hp⟩ := Int.eq_ofNat_of_zero_le hpc.1
    rw [hd] at h3
    rw [hp] at hpc
    rw [hd, hp, Int.toNat_natCast, Int.toNat_natCast, readN_dec d (by omega), readN_dec p (by omega), how_read, unhex_hexS]
    congr 1
    · omega
    · omega
  rw [hf, fold_log v.log 1 _ (by omega) hev]
  unfold stepV
  rw [if_neg (by simp), if_neg (by simp)]
  simp [bareV]
theorem ok_text {v : Vp} (hw : v.wf) (h : fOk v = true) : okS (textL v) = true := by
  unfold okS
  rw [read_text hw h, fOk_bare h, Bool.true_and, decide_eq_true_eq]
  unfold fmtS
  rw [if_pos (fOk_bare h), text_bare]
/-- Two virtual CPUs have the same report exactly if they agree in what is printed. -/
theorem text_inj {u v : Vp} (hu : u.wf) (hv : v.wf) (fu : fOk u = true) (fv : fOk v = true) : textL u = textL v ↔ bareV u = bareV v := by
  constructor
  · intro h
    rw [← read_text hu fu, ← read_text hv fv, h]
  · intro h
    rw [← text_bare u, ← text_bare v, h]
/-! ### The lines of a report -/
theorem glue_count (xs : List (List UInt8)) (y : List UInt8) (hx : ∀ x ∈ xs, (10 : UInt8) ∉ x) (hy : (10 : UInt8) ∉ y) : (glue xs y).count 10 = xs.length := by
  induction xs with
  | nil => rw [glue_nil, List.count_eq_zero.2 hy]; rfl
  | cons x xs ih => rw [glue_cons, List.count_append, List.count_eq_zero.2 (hx x List.mem_cons_self), List.count_cons_self, ih (fun z hz => hx z (List.mem_cons_of_mem _ hz)), List.length_cons]; omega
theorem text_count (v : Vp) : (textL v).count 10 = v.log.length + 1 := by
  rw [text_glue, glue_count _ _ (lines_no v) (by simp)]
  unfold linesV
  rw [List.length_cons, List.length_map]
theorem glue_snoc (xs : List (List UInt8)) (x : List UInt8) : glue (xs ++ [x]) [] = glue xs x ++ [10] := by simp [glue]
theorem text_end (v : Vp) : ∃ xs x, linesV v = xs ++ [x] ∧ (32 : UInt8) ∈ x ∧ textL v = glue xs x ++ [10] := by
  have hne : linesV v ≠ [] := by simp [linesV]
  have hm := List.getLast_mem hne
  have e : linesV v = (linesV v).dropLast ++ [(linesV v).getLast hne] := (List.dropLast_concat_getLast hne).symm
  refine ⟨_, _, e, ?_, ?_⟩
  · have : ∀ x ∈ linesV v, (32 : UInt8) ∈ x := by
      intro x hx
      unfold linesV at hx
      rcases List.mem_cons.1 hx with rfl | hx
      · unfold headL; rw [join_five]; simp
      · obtain ⟨ev, _, rfl⟩ := List.mem_map.1 hx
        unfold evL; rw [join_three]; simp
    exact this _ hm
  · rw [text_glue]
    conv => lhs; rw [e]
    exact glue_snoc _ _
/-- A report without its last byte is rejected. -/
theorem cut_bad (v : Vp) : okS (textL v).dropLast = false := by
  obtain ⟨xs, x, h1, h2, h3⟩ := text_end v
  have hno := lines_no v
  rw [h1] at hno
  have e : (textL v).dropLast = glue xs x := by rw [h3]; simp
  rw [e]
  have hs : splitL (glue xs x) = (xs, x) := splitL_of _ _ (fun z hz => hno z (List.mem_append_left _ hz)) (hno x (by simp))
  cases ho : okS (glue xs x) with
  | false => rfl
  | true =>
    exfalso
    unfold okS at ho
    obtain ⟨a, b⟩ := Bool.and_eq_true _ _ ▸ ho
    have b := of_decide_eq_true b
    unfold fmtS at b
    rw [if_pos a] at b
    have b : textL (readS (glue xs x)) = glue xs x := by
      have := congrArg (fun z : ByteArray => z.data.toList) b
      simpa using this
    have hs2 := split_text (readS (glue xs x))
    rw [b, hs] at hs2
    have : x = [] := congrArg Prod.snd hs2
    rw [this] at h2
    cases h2
theorem lineS_len (xs : List (List UInt8)) (n k : Nat) (hk : xs.length = k) (h : ∀ x ∈ xs, x.length ≤ n) : (lineS xs).length ≤ (n + 1) * k + 1 := by
  subst hk
  unfold lineS
  rw [List.length_append, List.length_singleton]
  have : ∀ l : List (List UInt8), (∀ x ∈ l, x.length ≤ n) → (Lib.join l [32]).length ≤ (n + 1) * l.length := by
    intro l
    induction l with
    | nil => intro _; simp [Lib.join, List.intercalate]
    | cons x l ih =>
      intro h
      cases l with
      | nil =>
        rw [show Lib.join [x] [32] = x by simp [Lib.join, List.intercalate]]
        have := h x List.mem_cons_self
        rw [List.length_singleton]; omega
      | cons y r =>
        rw [join_cons, List.length_append, List.length_append, List.length_singleton]
        have h1 := ih (fun z hz => h z (List.mem_cons_of_mem _ hz))
        have h2 := h x List.mem_cons_self
        rw [List.length_cons (a := x), Nat.mul_succ]
        omega
  have := this xs h
  omega
end Go.Proofs.YtnfkimhhgflfjaaDoor.Rep
