/- report.Parse: the rounds together, and its start. -/
import Derived.Test.YtnfkimhhgflfjaaDoorR13
namespace Go.Proofs.YtnfkimhhgflfjaaDoor.Rep
open Go Go.RowKit Go.Shelf
set_option linter.unusedVariables false
set_option linter.unusedSimpArgs false
attribute [local go_sem] Oper.semAt_some
/-! ### report.Parse, walked -/
theorem suf_line (x : List UInt8) : Lib.hasSuffix (x ++ [10]) [10] = true := by
  unfold Lib.hasSuffix
  exact List.isSuffixOf_iff_suffix.2 ⟨x, rfl⟩
theorem trim_line (x : List UInt8) : Lib.trimSuffix (x ++ [10]) [10] = x := by
  unfold Lib.trimSuffix
  rw [if_pos (suf_line x)]
  simp
theorem suf_rest (y : List UInt8) (hy : (10 : UInt8) ∉ y) : Lib.hasSuffix y [10] = false := by
  cases h : Lib.hasSuffix y [10] with
  | false => rfl
  | true =>
    unfold Lib.hasSuffix at h
    obtain ⟨t, ht⟩ := List.isSuffixOf_iff_suffix.1 h
    exact absurd (ht ▸ List.mem_append_right _ List.mem_cons_self) hy
theorem trim_rest (y : List UInt8) (hy : (10 : UInt8) ∉ y) : Lib.trimSuffix y [10] = y := by
  unfold Lib.trimSuffix
  rw [suf_rest y hy, if_neg (by decide)]
theorem mem_glue (xs : List (List UInt8)) (y x : List UInt8) (h : x ∈ xs) : x.length + 1 ≤ (glue xs y).length := by
  rw [glue, List.length_append]
  have : ∀ l : List (List UInt8), x ∈ l → x.length + 1 ≤ (l.flatMap fun x => x ++ [10]).length := by
    intro l
    induction l with
    | nil => intro h; cases h
    | cons z l ih =>
      intro h
      rw [List.flatMap_cons, List.length_append, List.length_append, List.length_singleton]
      rcases List.mem_cons.1 h with rfl | h
      · omega
      · have := ih h; omega
  have := this xs h
  omega
theorem len_glue (xs : List (List UInt8)) (y : List UInt8) : xs.length + y.length ≤ (glue xs y).length := by
  rw [glue, List.length_append]
  have : ∀ l : List (List UInt8), l.length ≤ (l.flatMap fun x => x ++ [10]).length := by
    intro l
    induction l with
    | nil => simp
    | cons z l ih => rw [List.flatMap_cons, List.length_append, List.length_append, List.length_singleton, List.length_cons]; omega
  have := this xs
  omega
theorem stepV_log (k : Nat) (v : Vp) (l : List (List UInt8)) : (stepV k v l).log.length ≤ v.log.length + 1 := by
  unfold stepV
  split
  · simp [firstV]
  · split
    · simp
    · omega
theorem foldV_log : ∀ (l : List (List UInt8)) (k : Nat) (v : Vp), (foldV k v l).log.length ≤ v.log.length + l.length
  | [], _, _ => by simp [foldV]
  | x :: r, k, v => by
    rw [foldV, List.length_cons]
    have h1 := foldV_log r (k + 1) (stepV k v (pcs x))
    have h2 := stepV_log k v (pcs x)
    omega
theorem getD_len {l : List (List UInt8)} {n : Nat} (h : ∀ z ∈ l, z.length ≤ n) (j : Nat) : (l.getD j []).length ≤ n := by
  rw [List.getD]
  cases hj : l[j]? with
  | none => simp
  | some z => exact h z (List.mem_of_getElem? hj)
theorem stepV_out (k : Nat) (v : Vp) (x : List UInt8) (n : Nat) (hv : v.out.length ≤ n) (hx : x.length ≤ n) : (stepV k v (pcs x)).out.length ≤ n := by
  unfold stepV
  split
  · have h1 := unhexL_len ((pcs x).getD 4 [])
    have h2 := getD_len (n := n) (fun z hz => Nat.le_trans (pcs_len x z hz) hx) 4
    show (unhexL ((pcs x).getD 4 [])).length ≤ n
    omega
  · split <;> exact hv
theorem foldV_out : ∀ (l : List (List UInt8)) (k : Nat) (v : Vp) (n : Nat), v.out.length ≤ n → (∀ x ∈ l, x.length ≤ n) → (foldV k v l).out.length ≤ n
  | [], _, _, _, h, _ => h
  | x :: r, k, v, n, h, hx => foldV_out r (k + 1) _ n (stepV_out k v x n h (hx x List.mem_cons_self)) (fun z hz => hx z (List.mem_cons_of_mem _ hz))
theorem foldV_wf : ∀ (l : List (List UInt8)) (k : Nat) (v : Vp), v.wf → (foldV k v l).wf
  | [], _, _, h => h
  | x :: r, k, v, h => foldV_wf r (k + 1) _ (stepV_wf h _)
/-- A round, whatever its line is. -/
theorem round_any {w : World} {xs : List (List UInt8)} {y : List UInt8} {s k l : Nat} {v : Vp} {W : World} (h : PI w xs y s k k v W) (S t : ByteArray) (x : List UInt8) (hx : x.length ≤ 1000000)
    (hT : ∀ W, Calls Tryd.prog 24 #[.string t, .string ⟨#[10]⟩] W fun e w' => e = .returned (.string ⟨x.toArray⟩) ∧ w' = W) (hk : k ≤ 1000000) (hlog : v.log.length ≤ 1000000) :
    pbody.wpIn (Fence.wide.inRound l) 3 Tryd.prog (goesOn (fun W' => PI w xs y s (k + 1) k (stepV k v (pcs x)) W') W) (pframe S t s) W := by
  by_cases hk0 : k = 0
  · subst hk0
    by_cases h5 : (pcs x).length = 5
    · exact round_a h S t x hx hT h5
    · have hst : stepV 0 v (pcs x) = v := by unfold stepV; rw [if_neg (fun e => h5 e.2), if_neg (by omega)]
      rw [hst]
      exact round_c h S t x hx hT hk (.inl ⟨rfl, h5⟩)
  · by_cases h3 : (pcs x).length = 3
    · exact round_b h S t x hx hT (by omega) hk hlog h3
    · have hst : stepV k v (pcs x) = v := by unfold stepV; rw [if_neg (by omega), if_neg (fun e => h3 e.2)]
      rw [hst]
      exact round_c h S t x hx hT hk (.inr ⟨by omega, h3⟩)
theorem VBox.newZ (w : World) : VBox (w.alloc (.cells #[Value.int .u32 0, Value.int .u32 0, Value.int .u32 0, Value.int .u32 0, Value.int .u32 0, Value.int .u32 0, Value.int .u32 0, Value.int .u32 0, Value.int .u32 0, Value.int .u32 0, Value.int .u32 0, Value.int .u32 0, Value.int .u32 0, Value.int .u32 0, Value.int .u32 0, Value.int .u32 0, Value.int .u32 0, Value.int .u32 0, Value.int .u32 0, Value.int .u32 0, Value.int .u32 0, Value.int .u32 0, Value.int .u32 0, Value.int .u32 0, Value.int .u32 0, Value.int .u32 0, Value.int .u32 0, Value.int .u32 0, Value.int .u32 0, .slice none 0 0, .bool false, .int .i64 0, .slice none 0 0] 30)) w.heap.size (fl (.slice none 0 0) false) := VBox.new w (fl (.slice none 0 0) false) rfl 30
theorem fl_zero : fl (.slice none 0 0) false = vcs zeroV none 0 none 0 := rfl
set_option maxHeartbeats 1000000 in
theorem pi_start (w : World) (hE : Env w) (xs : List (List UInt8)) (y : List UInt8) {s : Nat} (hs : w.heap.size = s) {W0 : World}
    (hW : ((((((w.alloc (.cells #[Value.int .u32 0, Value.int .u32 0, Value.int .u32 0, Value.int .u32 0, Value.int .u32 0, Value.int .u32 0, Value.int .u32 0, Value.int .u32 0, Value.int .u32 0, Value.int .u32 0, Value.int .u32 0, Value.int .u32 0, Value.int .u32 0, Value.int .u32 0, Value.int .u32 0, Value.int .u32 0, Value.int .u32 0, Value.int .u32 0, Value.int .u32 0, Value.int .u32 0, Value.int .u32 0, Value.int .u32 0, Value.int .u32 0, Value.int .u32 0, Value.int .u32 0, Value.int .u32 0, Value.int .u32 0, Value.int .u32 0, Value.int .u32 0, .slice none 0 0, .bool false, .int .i64 0, .slice none 0 0] 30)).alloc (.cells #[Value.int .u32 0, Value.int .u32 0, Value.int .u32 0, Value.int .u32 0, Value.int .u32 0, Value.int .u32 0, Value.int .u32 0, Value.int .u32 0, Value.int .u32 0, Value.int .u32 0, Value.int .u32 0, Value.int .u32 0, Value.int .u32 0, Value.int .u32 0, Value.int .u32 0, Value.int .u32 0, Value.int .u32 0, Value.int .u32 0, Value.int .u32 0, Value.int .u32 0, Value.int .u32 0, Value.int .u32 0, Value.int .u32 0, Value.int .u32 0, Value.int .u32 0, Value.int .u32 0, Value.int .u32 0, Value.int .u32 0, Value.int .u32 0, .slice none 0 0, .bool false, .int .i64 0, .slice none 0 0] 30)).alloc (.cells #[.int .i64 0] 3)).alloc (.cells #[.string ⟨(glue xs y).toArray⟩] 9)).alloc (.cells #[.string ⟨#[10]⟩] 9)).alloc (.cells #[.int .i64 1] 3)) = W0) :
    W0.heap.size = s + 1 + 1 + 1 + 1 + 1 + 1 ∧ PI w xs y s 0 0 zeroV W0 := by
  have key : ∀ (W : World) (n : Nat) (o : Obj), W.heap.size = n → Below s w W → s ≤ W.heap.size → (W.alloc o).heap.size = n + 1 ∧ Below s w (W.alloc o) ∧ s ≤ (W.alloc o).heap.size := fun W n o h hb hl => ⟨by simp [h], hb.alloc hl o, by simp; omega⟩
  obtain ⟨W1, h1⟩ : ∃ W1, w.alloc (.cells #[Value.int .u32 0, Value.int .u32 0, Value.int .u32 0, Value.int .u32 0, Value.int .u32 0, Value.int .u32 0, Value.int .u32 0, Value.int .u32 0, Value.int .u32 0, Value.int .u32 0, Value.int .u32 0, Value.int .u32 0, Value.int .u32 0, Value.int .u32 0, Value.int .u32 0, Value.int .u32 0, Value.int .u32 0, Value.int .u32 0, Value.int .u32 0, Value.int .u32 0, Value.int .u32 0, Value.int .u32 0, Value.int .u32 0, Value.int .u32 0, Value.int .u32 0, Value.int .u32 0, Value.int .u32 0, Value.int .u32 0, Value.int .u32 0, .slice none 0 0, .bool false, .int .i64 0, .slice none 0 0] 30) = W1 := ⟨_, rfl⟩
  obtain ⟨W2, h2⟩ : ∃ W2, W1.alloc (.cells #[Value.int .u32 0, Value.int .u32 0, Value.int .u32 0, Value.int .u32 0, Value.int .u32 0, Value.int .u32 0, Value.int .u32 0, Value.int .u32 0, Value.int .u32 0, Value.int .u32 0, Value.int .u32 0, Value.int .u32 0, Value.int .u32 0, Value.int .u32 0, Value.int .u32 0, Value.int .u32 0, Value.int .u32 0, Value.int .u32 0, Value.int .u32 0, Value.int .u32 0, Value.int .u32 0, Value.int .u32 0, Value.int .u32 0, Value.int .u32 0, Value.int .u32 0, Value.int .u32 0, Value.int .u32 0, Value.int .u32 0, Value.int .u32 0, .slice none 0 0, .bool false, .int .i64 0, .slice none 0 0] 30) = W2 := ⟨_, rfl⟩
  obtain ⟨W3, h3⟩ : ∃ W3, W2.alloc (.cells #[.int .i64 0] 3) = W3 := ⟨_, rfl⟩
  obtain ⟨W4, h4⟩ : ∃ W4, W3.alloc (.cells #[.string ⟨(glue xs y).toArray⟩] 9) = W4 := ⟨_, rfl⟩
  obtain ⟨W5, h5⟩ : ∃ W5, W4.alloc (.cells #[.string ⟨#[10]⟩] 9) = W5 := ⟨_, rfl⟩
  obtain ⟨W6, h6⟩ : ∃ W6, W5.alloc (.cells #[.int .i64 1] 3) = W6 := ⟨_, rfl⟩
  rw [h1, h2, h3, h4, h5, h6] at hW
  subst hW
  obtain ⟨z1, k1, l1⟩ := key w s (.cells #[Value.int .u32 0, Value.int .u32 0, Value.int .u32 0, Value.int .u32 0, Value.int .u32 0, Value.int .u32 0, Value.int .u32 0, Value.int .u32 0, Value.int .u32 0, Value.int .u32 0, Value.int .u32 0, Value.int .u32 0, Value.int .u32 0, Value.int .u32 0, Value.int .u32 0, Value.int .u32 0, Value.int .u32 0, Value.int .u32 0, Value.int .u32 0, Value.int .u32 0, Value.int .u32 0, Value.int .u32 0, Value.int .u32 0, Value.int .u32 0, Value.int .u32 0, Value.int .u32 0, Value.int .u32 0, Value.int .u32 0, Value.int .u32 0, .slice none 0 0, .bool false, .int .i64 0, .slice none 0 0] 30) hs (Below.refl _ _) (by omega)
  rw [h1] at z1 k1 l1
  obtain ⟨z2, k2, l2⟩ := key W1 _ (.cells #[Value.int .u32 0, Value.int .u32 0, Value.int .u32 0, Value.int .u32 0, Value.int .u32 0, Value.int .u32 0, Value.int .u32 0, Value.int .u32 0, Value.int .u32 0, Value.int .u32 0, Value.int .u32 0, Value.int .u32 0, Value.int .u32 0, Value.int .u32 0, Value.int .u32 0, Value.int .u32 0, Value.int .u32 0, Value.int .u32 0, Value.int .u32 0, Value.int .u32 0, Value.int .u32 0, Value.int .u32 0, Value.int .u32 0, Value.int .u32 0, Value.int .u32 0, Value.int .u32 0, Value.int .u32 0, Value.int .u32 0, Value.int .u32 0, .slice none 0 0, .bool false, .int .i64 0, .slice none 0 0] 30) z1 k1 l1
  rw [h2] at z2 k2 l2
  obtain ⟨z3, k3, l3⟩ := key W2 _ (.cells #[.int .i64 0] 3) z2 k2 l2
  rw [h3] at z3 k3 l3
  obtain ⟨z4, k4, l4⟩ := key W3 _ (.cells #[.string ⟨(glue xs y).toArray⟩] 9) z3 k3 l3
  rw [h4] at z4 k4 l4
  obtain ⟨z5, k5, l5⟩ := key W4 _ (.cells #[.string ⟨#[10]⟩] 9) z4 k4 l4
  rw [h5] at z5 k5 l5
  obtain ⟨z6, k6, l6⟩ := key W5 _ (.cells #[.int .i64 1] 3) z5 k5 l5
  rw [h6] at z6 k6 l6
  have b1 : Below w.heap.size w W1 := by rw [← h1]; exact (Below.refl _ w).alloc (Nat.le_refl _) _
  have b2 : Below W1.heap.size W1 W2 := by rw [← h2]; exact (Below.refl _ W1).alloc (Nat.le_refl _) _
  have b3 : Below W2.heap.size W2 W3 := by rw [← h3]; exact (Below.refl _ W2).alloc (Nat.le_refl _) _
  have b4 : Below W3.heap.size W3 W4 := by rw [← h4]; exact (Below.refl _ W3).alloc (Nat.le_refl _) _
  have b5 : Below W4.heap.size W4 W5 := by rw [← h5]; exact (Below.refl _ W4).alloc (Nat.le_refl _) _
  have b6 : Below W5.heap.size W5 W6 := by rw [← h6]; exact (Below.refl _ W5).alloc (Nat.le_refl _) _
  have n1 : VBox W1 s (fl (.slice none 0 0) false) := by rw [← h1, ← hs]; exact VBox.newZ w
  have n2 : VBox W2 (s + 1) (fl (.slice none 0 0) false) := by rw [← h2, ← z1]; exact VBox.newZ W1
  have n3 : Boxed W3 (s + 1 + 1) 3 (.int .i64 0) := by rw [← h3, ← z2]; exact Boxed.new _ _ _
  have n4 : Boxed W4 (s + 1 + 1 + 1) 9 (.string ⟨(glue xs y).toArray⟩) := by rw [← h4, ← z3]; exact Boxed.new _ _ _
  have n5 : Boxed W5 (s + 1 + 1 + 1 + 1) 9 (.string ⟨#[10]⟩) := by rw [← h5, ← z4]; exact Boxed.new _ _ _
  have n6 : Boxed W6 (s + 1 + 1 + 1 + 1 + 1) 3 (.int .i64 1) := by rw [← h6, ← z5]; exact Boxed.new _ _ _
  have kp : ∀ {W W' : World} {b : Nat} {t : TypeId} {u : Value}, Boxed W b t u → Below W.heap.size W W' → Boxed W' b t u := fun h hb => h.kept (grown_of_below hb) (by simp)
  refine ⟨z6, k6, by omega, ((((((hE.later b1).later b2).later b3).later b4).later b5).later b6), by have := hE.size; omega, ((((n1.later b2).later b3).later b4).later b5).later b6, zeroV_wf, ⟨none, 0, none, 0, ?_, ?_, ?_, ?_⟩, kp (kp (kp n3 b4) b5) b6, ?_, kp n5 b6, n6⟩
  · rw [← fl_zero]; exact (((n2.later b3).later b4).later b5).later b6
  · intro k c hk; cases hk
  · intro k a hk ha; cases ha
  · exact World.ownsRow_nil _ _ _ _
  · exact kp (kp n4 b5) b6
theorem wpListIn_load_mid {F : Fence} {n : Nat} {ops : Array Oper} {rest : List Oper} {op : Oper} {a : Act} {w : World} {Q : Exit → Act → World → Prop} (hgd : op.guard = none) (ty : TypeId) (x : Operand) (ho : op.op = .load ty x)
    (b o : Nat) (hx : a.eval x = .pointer (some ⟨b, o, none⟩)) (cs : List Value) (d : TypeDesc) (hc : w.rangeAt b o cs)
    (hu : Tryd.prog.underlying ty = some d) (hd : d.isRow = true) (hi : (Tryd.prog.info? ty).map (·.size) = some cs.length)
    (h : wpListIn F n Tryd.prog ops Q rest (a.put op.dst (.agg cs.toArray)) w) : wpListIn F n Tryd.prog ops Q (op :: rest) a w :=
  wpListIn_plain hgd fun K hK => by
    unfold Oper.wpIn
    refine ⟨by simp [Oper.about, ho], ?_⟩
    rw [Oper.semAt_plain F _ _ (by rw [ho]; intro c hc'; cases hc')]
    unfold execOp
    simp only [ho, hx, Instr.loadAt, Instr.sureAddr, Sem.run_bind, Sem.run_pure, Result.andThen_ok, run_loadVar_mid w b o ty cs d hc hu hd hi]
    exact hK _ _ h
theorem flat_get : ∀ (l : List Ev) (k j : Nat) (e : Ev) (u : Value), l[k]? = some e → (ecl e)[j]? = some u → (l.flatMap ecl)[k * 3 + j]? = some u
  | [], k, _, _, _, h, _ => by simp at h
  | x :: l, 0, j, e, u, h, hu => by
    rw [List.getElem?_cons_zero] at h
    cases h
    rw [List.flatMap_cons, Nat.zero_mul, Nat.zero_add, List.getElem?_append_left (List.getElem?_eq_some_iff.1 hu).1]
    exact hu
  | x :: l, k + 1, j, e, u, h, hu => by
    rw [List.getElem?_cons_succ] at h
    have := flat_get l k j e u h hu
    rw [List.flatMap_cons, List.getElem?_append_right (by show 3 ≤ _; omega), show (k + 1) * 3 + j - (ecl x).length = k * 3 + j by show (k + 1) * 3 + j - 3 = _; omega]
    exact this
theorem evs_of_row {n₀ : Nat} {W : World} {q : Option Addr} {k cap : Nat} {l : List Ev} (h : W.ownsRow n₀ 49 3 (.slice q k cap) k (l.flatMap ecl)) (hl : l.length = k) : Evs W q l := by
  subst hl
  intro j e hj
  have hjl := (List.getElem?_eq_some_iff.1 hj).1
  have h' := h
  rcases h.2 with ⟨_, h1⟩ | ⟨g, cap', cur, he, _, hh, hle, _⟩
  · omega
  · cases he
    refine ⟨⟨g, 0, none⟩, rfl, (Array.getElem?_eq_some_iff.1 hh).1, fun i u hu => ?_⟩
    have hc := h'.cells (g := g) rfl (j * 3 + i) u (flat_get l j i e u hj hu)
    have : ((⟨g, 0, none⟩ : Addr).add (j * 3)).add i = (⟨g, 0, none⟩ : Addr).add (j * 3 + i) := by
      unfold Addr.add
      repeat' split
      all_goals first | rfl | simp_all | (simp; omega) | omega
    rw [this]
    exact hc
end Go.Proofs.YtnfkimhhgflfjaaDoor.Rep
