/- asm.Assemble, walked. -/
import Derived.Test.YtihnglgknncgpaaGreatDoorSpA
namespace Go.Proofs.YtihnglgknncgpaaGreatDoor.Asm
open Go Go.RowKit Go.Proofs.YtihnglgknncgpaaGreatDoor.PAsmEveryWordHasOneLine Go.Proofs.YtihnglgknncgpaaGreatDoorW.PrintWords Go.Proofs.YtihnglgknncgpaaGreatDoorW.PrintLast Go.Proofs.YtihnglgknncgpaaGreatDoorW.PrintMore Go.Proofs.YtihnglgknncgpaaGreatDoor.Bm Go.Proofs.YtihnglgknncgpaaGreatDoor.Isa
set_option linter.unusedVariables false
set_option linter.unusedSimpArgs false
attribute [local go_sem] Oper.semAt_some
/-- The word whose line x is. -/
def oneL (x : List UInt8) : Option Nat := oneP ⟨x.toArray⟩
theorem suf_line (x : List UInt8) : Lib.hasSuffix (x ++ [10]) [10] = true := by simp [Lib.hasSuffix]
theorem trim_line (x : List UInt8) : Lib.trimSuffix (x ++ [10]) [10] = x := by
  unfold Lib.trimSuffix
  rw [if_pos (suf_line x)]
  simp
theorem suf_rest (y : List UInt8) (hy : (10 : UInt8) ∉ y) : Lib.hasSuffix y [10] = false := by
  cases h : Lib.hasSuffix y [10] with
  | false => rfl
  | true =>
    unfold Lib.hasSuffix at h
    obtain ⟨t, ht⟩ := List.isSuffixOf_iff_suffix.1 h
    exact absurd (ht ▸ List.mem_append_right _ List.mem_cons_self) hy
theorem trim_rest (y : List UInt8) (hy : (10 : UInt8) ∉ y) : Lib.trimSuffix y [10] = y := by
  unfold Lib.trimSuffix
  rw [suf_rest y hy, if_neg (by decide)]
def wv (ws : List Nat) : List Value := ws.map fun (x : Nat) => Value.int .u32 (x : Int)
theorem boxPut {W : World} {B l : Nat} {t : TypeId} {v : Value} {r : Loop} (h : Boxed W B t v) (hl : W.heap[l]? = some (.loop r)) (o : Obj) : Boxed (W.putObj l o) B t v :=
  (World.putObj_heap_other (fun e => by rw [Boxed, e, hl] at h; cases h)).trans h
theorem belowPut {b l : Nat} {w W : World} (h : Below b w W) (hb : b ≤ W.heap.size) (hl : b ≤ l) (o : Obj) : Below b w (W.putObj l o) :=
  h.grown (grownBy_putObj' W l o) hb (fun k e => by cases e; exact hl)
theorem mem_glue (xs : List (List UInt8)) (y x : List UInt8) (h : x ∈ xs) : x.length + 1 ≤ (glue xs y).length := by
  induction xs with
  | nil => cases h
  | cons z xs ih =>
    rw [glue_cons, List.length_append, List.length_cons]
    rcases List.mem_cons.1 h with rfl | h
    · omega
    · have := ih h
      omega
theorem slice_of_own {W : World} {n₀ e sz k : Nat} {v : Value} {l : List Value} (h : W.ownsRow n₀ e sz v k l) : ∃ a cap, v = .slice a k cap := by
  rcases h.2 with ⟨rfl, rfl⟩ | ⟨g, cap, cur, rfl, _⟩
  · exact ⟨_, _, rfl⟩
  · exact ⟨_, _, rfl⟩
/-- What stands before round k of asm.Assemble: k words out, the rest of the text from line r on in its box. -/
structure AI (w : World) (xs : List (List UInt8)) (y : List UInt8) (s k r : Nat) (W : World) : Prop where
  below : Below s w W
  le : s ≤ W.heap.size
  b0 : Boxed W s 25 (.slice none 0 0)
  b1 : Boxed W (s + 1) 30 (.int .i64 0)
  b2 : Boxed W (s + 1 + 1) 3 (.int .i64 0)
  out : ∃ ws v, ws.length = k ∧ (xs.take k).map oneL = ws.map some ∧ Boxed W (s + 1 + 1 + 1) 25 v ∧ W.ownsRow s 22 1 v k (wv ws)
  bs : Boxed W (s + 1 + 1 + 1 + 1) 9 (.string ⟨(glue (xs.drop r) y).toArray⟩)
  bp : Boxed W (s + 1 + 1 + 1 + 1 + 1) 9 (.string ⟨#[10]⟩)
  bv : Boxed W (s + 1 + 1 + 1 + 1 + 1 + 1) 3 (.int .i64 1)
/-- Text xs, y is bad from line k on. -/
def asmBad (xs : List (List UInt8)) (y : List UInt8) (k : Nat) : Prop :=
  ∃ ws : List Nat, ws.length = k ∧ (xs.take k).map oneL = ws.map some ∧ ((∃ x, xs[k]? = some x ∧ oneL x = none) ∨ (k = xs.length ∧ y ≠ []))
/-- What stands when a round returns. -/
structure AX (w : World) (xs : List (List UInt8)) (y : List UInt8) (s : Nat) (W : World) : Prop where
  below : Below s w W
  le : s ≤ W.heap.size
  bad : ∃ k : Nat, asmBad xs y k ∧ Boxed W (s + 1 + 1) 3 (.int .i64 (k : Int))
  b0 : Boxed W s 25 (.slice none 0 0)
  b1 : Boxed W (s + 1) 30 (.int .i64 2)
theorem AI.put {w W : World} {xs : List (List UInt8)} {y : List UInt8} {s k r l : Nat} {q : Loop} (h : AI w xs y s k r W) (hl : W.heap[l]? = some (.loop q)) (hs : s ≤ l) (o : Loop) : AI w xs y s k r (W.putObj l (.loop o)) := by
  obtain ⟨ws, v, h1, h2, h3, h4⟩ := h.out
  exact ⟨belowPut h.below h.le hs _, by simp; exact h.le, boxPut h.b0 hl _, boxPut h.b1 hl _, boxPut h.b2 hl _, ⟨ws, v, h1, h2, boxPut h3 hl _, ownsRow_putObj h4 _ hl rfl⟩, boxPut h.bs hl _, boxPut h.bp hl _, boxPut h.bv hl _⟩
theorem AX.put {w W : World} {xs : List (List UInt8)} {y : List UInt8} {s l : Nat} {q : Loop} (h : AX w xs y s W) (hl : W.heap[l]? = some (.loop q)) (hs : s ≤ l) (o : Loop) : AX w xs y s (W.putObj l (.loop o)) := by
  obtain ⟨k, h1, h2⟩ := h.bad
  exact ⟨belowPut h.below h.le hs _, by simp; exact h.le, ⟨k, h1, boxPut h2 hl _⟩, boxPut h.b0 hl _, boxPut h.b1 hl _⟩
/-- Behind a step that turns nothing that lies there. -/
theorem AI.later {w W W' : World} {xs : List (List UInt8)} {y : List UInt8} {s k r : Nat} (h : AI w xs y s k r W) (hb : Below W.heap.size W W') : AI w xs y s k r W' := by
  obtain ⟨ws, v, h1, h2, h3, h4⟩ := h.out
  have g := grown_of_below hb
  exact ⟨h.below.trans (hb.mono h.le), Nat.le_trans h.le hb.size, h.b0.kept g (by simp), h.b1.kept g (by simp), h.b2.kept g (by simp), ⟨ws, v, h1, h2, h3.kept g (by simp), h4.kept g (by cases v.ownBlock <;> simp)⟩,
    h.bs.kept g (by simp), h.bp.kept g (by simp), h.bv.kept g (by simp)⟩
theorem AI.alloc {w W : World} {xs : List (List UInt8)} {y : List UInt8} {s k r : Nat} (h : AI w xs y s k r W) (o : Obj) : AI w xs y s k r (W.alloc o) := h.later ((Below.refl _ W).alloc (Nat.le_refl _) o)
theorem AI.next {w W : World} {xs : List (List UInt8)} {y : List UInt8} {s k : Nat} (h : AI w xs y s (k + 1) k W) : AI w xs y s (k + 1) (k + 1) (W.setCell ⟨s + 1 + 1 + 1 + 1, 0, none⟩ (.string ⟨(glue (xs.drop (k + 1)) y).toArray⟩)) := by
  obtain ⟨ws, v, h1, h2, h3, h4⟩ := h.out
  have g := grownBy_setCell' W (s + 1 + 1 + 1 + 1) (.string ⟨(glue (xs.drop (k + 1)) y).toArray⟩)
  exact ⟨h.below.setCell (p := ⟨s + 1 + 1 + 1 + 1, 0, none⟩) (by show s ≤ s + 1 + 1 + 1 + 1; omega) _, Nat.le_trans h.le g.size, h.b0.kept g (some_ne (by omega)), h.b1.kept g (some_ne (by omega)), h.b2.kept g (some_ne (by omega)),
    ⟨ws, v, h1, h2, h3.kept g (some_ne (by omega)), h4.kept g (.inr (h.bs.not_row (by decide) h4).symm)⟩, h.bs.set _, h.bp.kept g (some_ne (by omega)), h.bv.kept g (some_ne (by omega))⟩
theorem box_drew {W : World} {B : Nat} {t : TypeId} {v : Value} (h : Boxed W B t v) : Boxed W.drew B t v := h
theorem ax_end {w W2 : World} {xs : List (List UInt8)} {y : List UInt8} {s k r : Nat} (h : AI w xs y s k r W2) {m : Nat} (hb : asmBad xs y m) {Wf : World}
    (hf : Wf = (((W2.setCell ⟨s, 0, none⟩ (.slice none 0 0)).setCell ⟨s + 1, 0, none⟩ (.int .i64 2)).setCell ⟨s + 1 + 1, 0, none⟩ (.int .i64 (m : Int))).drew) : KeepsOthers W2 Wf ∧ AX w xs y s Wf := by
  subst hf
  have g1 := grownBy_setCell' W2 s (.slice none 0 0)
  have g2 := grownBy_setCell' (W2.setCell ⟨s, 0, none⟩ (.slice none 0 0)) (s + 1) (.int .i64 2)
  have g3 := grownBy_setCell' ((W2.setCell ⟨s, 0, none⟩ (.slice none 0 0)).setCell ⟨s + 1, 0, none⟩ (.int .i64 2)) (s + 1 + 1) (.int .i64 (m : Int))
  refine ⟨((KeepsOthers.setCell _ _ _).trans ((KeepsOthers.setCell _ _ _).trans (KeepsOthers.setCell _ _ _))).trans (KeepsOthers.drew _), ?_, ?_, ?_, ?_, ?_⟩
  · exact (((h.below.setCell (p := ⟨s, 0, none⟩) (Nat.le_refl _) _).setCell (p := ⟨s + 1, 0, none⟩) (by show s ≤ s + 1; omega) _).setCell (p := ⟨s + 1 + 1, 0, none⟩) (by show s ≤ s + 1 + 1; omega) _).drew
  · exact Nat.le_trans h.le (Nat.le_trans g1.size (Nat.le_trans g2.size g3.size))
  · exact ⟨m, hb, box_drew (((h.b2.kept g1 (some_ne (by omega))).kept g2 (some_ne (by omega))).set (.int .i64 (m : Int)))⟩
  · exact box_drew (((h.b0.set (.slice none 0 0)).kept g2 (some_ne (by omega))).kept g3 (some_ne (by omega)))
  · exact box_drew (((h.b1.kept g1 (some_ne (by omega))).set (.int .i64 2)).kept g3 (some_ne (by omega)))
theorem ai_step {w W2 w3 : World} {xs : List (List UInt8)} {y x : List UInt8} {s k n : Nat} (h : AI w xs y s k k W2) {ws : List Nat} {v v' : Value} (hwl : ws.length = k) (hws : (xs.take k).map oneL = ws.map some) (bo : Boxed W2 (s + 1 + 1 + 1) 25 v)
    (hown : W2.ownsRow s 22 1 v k (wv ws)) (tmp : Obj) (hown' : w3.ownsRow s 22 1 v' (k + 1) (wv ws ++ [.int .u32 (n : Int)])) (hgrow : (W2.alloc tmp).grownBy w3 v.ownBlock) (hk : xs[k]? = some x) (ho : oneL x = some n) :
    KeepsOthers W2 (w3.setCell ⟨s + 1 + 1 + 1, 0, none⟩ v') ∧ AI w xs y s (k + 1) k (w3.setCell ⟨s + 1 + 1 + 1, 0, none⟩ v') := by
  obtain ⟨q1, q2, q3, q4, q5⟩ := Boxed.appended bo (by decide) hown h.le (by omega) hown' hgrow
  have g := grownBy_setCell' w3 (s + 1 + 1 + 1) v'
  have kp : ∀ {B t u}, Boxed W2 B t u → t ≠ 22 → B ≠ s + 1 + 1 + 1 → Boxed (w3.setCell ⟨s + 1 + 1 + 1, 0, none⟩ v') B t u := fun hb ht hB => ((hb.alloc tmp).kept hgrow (hb.not_row ht hown)).kept g (some_ne hB)
  refine ⟨q4, h.below.trans q5, Nat.le_trans h.le q4.size, kp h.b0 (by decide) (by omega), kp h.b1 (by decide) (by omega), kp h.b2 (by decide) (by omega), ⟨ws ++ [n], v', by simp [hwl], ?_, q2, ?_⟩, kp h.bs (by decide) (by omega), kp h.bp (by decide) (by omega), kp h.bv (by decide) (by omega)⟩
  · rw [List.take_add_one, hk, Option.toList_some, List.map_append, List.map_append, hws]
    simp [ho]
  · have : wv (ws ++ [n]) = wv ws ++ [.int .u32 (n : Int)] := by simp [wv]
    rw [this]
    exact q3
theorem info38 : (Tryz.prog.info? 22).map (fun i => (i.zero, i.size, i.bytes)) = some (some (.int .u32 0), 1, 4) := by kernel_rfl
theorem len_glue (xs : List (List UInt8)) (y : List UInt8) : xs.length ≤ (glue xs y).length := by
  induction xs with
  | nil => exact Nat.zero_le _
  | cons x xs ih => rw [glue_cons, List.length_append, List.length_cons, List.length_cons]; omega
theorem keeps_later {W W' : World} (hb : Below W.heap.size W W') : KeepsOthers W W' := KeepsOthers.of_grownBy (grown_of_below hb) (fun j o e => by cases e)
theorem oneP_lt {s : ByteArray} {n : Nat} (h : oneP s = some n) : n < 2 ^ 32 := by
  unfold oneP at h
  split at h
  · rename_i hp
    cases h
    exact encW_lt hp.1
  · split at h
    · rename_i u hu
      split at h
      · cases h
        have := puR_lt hu
        omega
      · cases h
    · cases h
theorem ws_lt {xs : List (List UInt8)} {ws : List Nat} (h : xs.map oneL = ws.map some) : ∀ n ∈ ws, n < 2 ^ 32 := by
  intro n hn
  have : some n ∈ xs.map oneL := by rw [h]; exact List.mem_map_of_mem hn
  obtain ⟨x, _, hx⟩ := List.mem_map.1 this
  exact oneP_lt hx
theorem ws_of_row {W : World} {n₀ k cap : Nat} {p : Option Addr} {ws : List Nat} (h : W.ownsRow n₀ 22 1 (.slice p k cap) k (wv ws)) (hl : ws.length = k) (hlt : ∀ n ∈ ws, n < 2 ^ 32) : Ws W p ws := by
  subst hl
  intro j x hj
  have hjl := (List.getElem?_eq_some_iff.1 hj).1
  have h' := h
  rcases h.2 with ⟨_, h1⟩ | ⟨g, cap', cur, he, _, hh, hle, _⟩
  · omega
  · cases he
    have hc := h'.cells (g := g) rfl j (.int .u32 (x : Int)) (by unfold wv; rw [List.getElem?_map, hj]; rfl)
    exact ⟨hlt x (List.mem_of_getElem? hj), ⟨g, 0, none⟩, rfl, World.block_lt_of_cell? W _ hc, hc⟩
theorem ae_end {w W : World} {xs : List (List UInt8)} {y : List UInt8} {s k r : Nat} (h : AI w xs y s k r W) {v : Value} {l : List Value} (hown : W.ownsRow s 22 1 v k l) {Wf : World}
    (hf : Wf = ((W.setCell ⟨s, 0, none⟩ v).setCell ⟨s + 1, 0, none⟩ (.int .i64 0)).setCell ⟨s + 1 + 1, 0, none⟩ (.int .i64 0)) :
    KeepsOthers W Wf ∧ Below s w Wf ∧ s ≤ Wf.heap.size ∧ Boxed Wf s 25 v ∧ Boxed Wf (s + 1) 30 (.int .i64 0) ∧ Boxed Wf (s + 1 + 1) 3 (.int .i64 0) ∧ Wf.ownsRow s 22 1 v k l := by
  subst hf
  have g1 := grownBy_setCell' W s v
  have g2 := grownBy_setCell' (W.setCell ⟨s, 0, none⟩ v) (s + 1) (.int .i64 0)
  have g3 := grownBy_setCell' ((W.setCell ⟨s, 0, none⟩ v).setCell ⟨s + 1, 0, none⟩ (.int .i64 0)) (s + 1 + 1) (.int .i64 0)
  have e0 := h.b0.not_row (by decide) hown
  have e1 := h.b1.not_row (by decide) hown
  have e2 := h.b2.not_row (by decide) hown
  refine ⟨(KeepsOthers.setCell _ _ _).trans ((KeepsOthers.setCell _ _ _).trans (KeepsOthers.setCell _ _ _)), ?_, ?_, ?_, ?_, ?_, ?_⟩
  · exact ((h.below.setCell (p := ⟨s, 0, none⟩) (Nat.le_refl _) _).setCell (p := ⟨s + 1, 0, none⟩) (by show s ≤ s + 1; omega) _).setCell (p := ⟨s + 1 + 1, 0, none⟩) (by show s ≤ s + 1 + 1; omega) _
  · exact Nat.le_trans h.le (Nat.le_trans g1.size (Nat.le_trans g2.size g3.size))
  · exact ((h.b0.set v).kept g2 (some_ne (by omega))).kept g3 (some_ne (by omega))
  · exact ((h.b1.kept g1 (some_ne (by omega))).set (.int .i64 0)).kept g3 (some_ne (by omega))
  · exact ((h.b2.kept g1 (some_ne (by omega))).kept g2 (some_ne (by omega))).set (.int .i64 0)
  · exact ((hown.kept g1 (.inr (Ne.symm e0))).kept g2 (.inr (Ne.symm e1))).kept g3 (.inr (Ne.symm e2))
theorem ai_start (w : World) (xs : List (List UInt8)) (y : List UInt8) {s : Nat} (hs : w.heap.size = s) :
    (((((((w.alloc (.cells #[.slice none 0 0] 25)).alloc (.cells #[.int .i64 0] 30)).alloc (.cells #[.int .i64 0] 3)).alloc (.cells #[.slice none 0 0] 25)).alloc (.cells #[.string ⟨(glue xs y).toArray⟩] 9)).alloc (.cells #[.string ⟨#[10]⟩] 9)).alloc (.cells #[.int .i64 1] 3)).heap.size = s + 1 + 1 + 1 + 1 + 1 + 1 + 1 ∧
    AI w xs y s 0 0 (((((((w.alloc (.cells #[.slice none 0 0] 25)).alloc (.cells #[.int .i64 0] 30)).alloc (.cells #[.int .i64 0] 3)).alloc (.cells #[.slice none 0 0] 25)).alloc (.cells #[.string ⟨(glue xs y).toArray⟩] 9)).alloc (.cells #[.string ⟨#[10]⟩] 9)).alloc (.cells #[.int .i64 1] 3)) := by
  have key : ∀ (W : World) (n : Nat) (o : Obj), W.heap.size = n → Below s w W → s ≤ W.heap.size → (W.alloc o).heap.size = n + 1 ∧ Below s w (W.alloc o) ∧ s ≤ (W.alloc o).heap.size := fun W n o h hb hl => ⟨by simp [h], hb.alloc hl o, by simp; omega⟩
  obtain ⟨W1, h1⟩ : ∃ W1, w.alloc (.cells #[.slice none 0 0] 25) = W1 := ⟨_, rfl⟩
  obtain ⟨W2, h2⟩ : ∃ W2, W1.alloc (.cells #[.int .i64 0] 30) = W2 := ⟨_, rfl⟩
  obtain ⟨W3, h3⟩ : ∃ W3, W2.alloc (.cells #[.int .i64 0] 3) = W3 := ⟨_, rfl⟩
  obtain ⟨W4, h4⟩ : ∃ W4, W3.alloc (.cells #[.slice none 0 0] 25) = W4 := ⟨_, rfl⟩
  obtain ⟨W5, h5⟩ : ∃ W5, W4.alloc (.cells #[.string ⟨(glue xs y).toArray⟩] 9) = W5 := ⟨_, rfl⟩
  obtain ⟨W6, h6⟩ : ∃ W6, W5.alloc (.cells #[.string ⟨#[10]⟩] 9) = W6 := ⟨_, rfl⟩
  obtain ⟨W7, h7⟩ : ∃ W7, W6.alloc (.cells #[.int .i64 1] 3) = W7 := ⟨_, rfl⟩
  rw [h1, h2, h3, h4, h5, h6, h7]
  obtain ⟨z1, k1, l1⟩ := key w s (.cells #[.slice none 0 0] 25) hs (Below.refl _ _) (by omega)
  rw [h1] at z1 k1 l1
  obtain ⟨z2, k2, l2⟩ := key W1 _ (.cells #[.int .i64 0] 30) z1 k1 l1
  rw [h2] at z2 k2 l2
  obtain ⟨z3, k3, l3⟩ := key W2 _ (.cells #[.int .i64 0] 3) z2 k2 l2
  rw [h3] at z3 k3 l3
  obtain ⟨z4, k4, l4⟩ := key W3 _ (.cells #[.slice none 0 0] 25) z3 k3 l3
  rw [h4] at z4 k4 l4
  obtain ⟨z5, k5, l5⟩ := key W4 _ (.cells #[.string ⟨(glue xs y).toArray⟩] 9) z4 k4 l4
  rw [h5] at z5 k5 l5
  obtain ⟨z6, k6, l6⟩ := key W5 _ (.cells #[.string ⟨#[10]⟩] 9) z5 k5 l5
  rw [h6] at z6 k6 l6
  obtain ⟨z7, k7, l7⟩ := key W6 _ (.cells #[.int .i64 1] 3) z6 k6 l6
  rw [h7] at z7 k7 l7
  have n1 : Boxed W1 s 25 (.slice none 0 0) := by rw [← h1, ← hs]; exact Boxed.new _ _ _
  have n2 : Boxed W2 (s + 1) 30 (.int .i64 0) := by rw [← h2, ← z1]; exact Boxed.new _ _ _
  have n3 : Boxed W3 (s + 1 + 1) 3 (.int .i64 0) := by rw [← h3, ← z2]; exact Boxed.new _ _ _
  have n4 : Boxed W4 (s + 1 + 1 + 1) 25 (.slice none 0 0) := by rw [← h4, ← z3]; exact Boxed.new _ _ _
  have n5 : Boxed W5 (s + 1 + 1 + 1 + 1) 9 (.string ⟨(glue xs y).toArray⟩) := by rw [← h5, ← z4]; exact Boxed.new _ _ _
  have n6 : Boxed W6 (s + 1 + 1 + 1 + 1 + 1) 9 (.string ⟨#[10]⟩) := by rw [← h6, ← z5]; exact Boxed.new _ _ _
  have n7 : Boxed W7 (s + 1 + 1 + 1 + 1 + 1 + 1) 3 (.int .i64 1) := by rw [← h7, ← z6]; exact Boxed.new _ _ _
  have g2 : ∀ {b t v}, Boxed W1 b t v → Boxed W2 b t v := fun h => by rw [← h2]; exact h.alloc _
  have g3 : ∀ {b t v}, Boxed W2 b t v → Boxed W3 b t v := fun h => by rw [← h3]; exact h.alloc _
  have g4 : ∀ {b t v}, Boxed W3 b t v → Boxed W4 b t v := fun h => by rw [← h4]; exact h.alloc _
  have g5 : ∀ {b t v}, Boxed W4 b t v → Boxed W5 b t v := fun h => by rw [← h5]; exact h.alloc _
  have g6 : ∀ {b t v}, Boxed W5 b t v → Boxed W6 b t v := fun h => by rw [← h6]; exact h.alloc _
  have g7 : ∀ {b t v}, Boxed W6 b t v → Boxed W7 b t v := fun h => by rw [← h7]; exact h.alloc _
  exact ⟨z7, k7, l7, g7 (g6 (g5 (g4 (g3 (g2 n1))))), g7 (g6 (g5 (g4 (g3 n2)))), g7 (g6 (g5 (g4 n3))), ⟨[], _, rfl, rfl, g7 (g6 (g5 n4)), ⟨rfl, .inl ⟨rfl, rfl⟩⟩⟩, g7 (g6 n5), g7 n6, n7⟩
set_option maxRecDepth 100000 in
set_option maxHeartbeats 4000000 in
theorem asm_go (xs : List (List UInt8)) (y : List UInt8) (hxs : ∀ x ∈ xs, (10 : UInt8) ∉ x) (hy : (10 : UInt8) ∉ y) (hlen : (glue xs y).length < 4294967281) (w : World) (hE : Env w) :
    Calls Tryz.prog 9 #[.string ⟨(glue xs y).toArray⟩] w fun e w' => Below w.heap.size w w' ∧
      ((∃ (ws : List Nat) (p : Option Addr) (cap : Nat), y = [] ∧ xs.map oneL = ws.map some ∧ e = .returned (.tuple #[.slice p ws.length cap, .int .i64 0, .int .i64 0]) ∧ Ws w' p ws) ∨
       (∃ k : Nat, asmBad xs y k ∧ e = .returned (.tuple #[.slice none 0 0, .int .i64 2, .int .i64 (k : Int)]))) := by
  refine (callsIn_wide (n := 5)).1 ?_
  refine callsIn_of_wp_marks Tryz.func9 rfl trivial ?_ rfl
  simp only [Tryz.ntmps9, List.size_toArray, List.length_cons, List.length_nil, Nat.reduceAdd, Nat.reduceSub, Array.replicate_succ, Array.replicate_zero, List.push_toArray, List.append_toArray, List.nil_append, List.cons_append]
  obtain ⟨S, hS⟩ : ∃ S : ByteArray, ⟨(glue xs y).toArray⟩ = S := ⟨_, rfl⟩
  rw [hS]
  gi_wp2_with (refine ⟨trivial, ?_⟩; gi_at_call 28; refine (callsIn_wide.2 (seq_any _ _)).mono ?_; rintro e w' ⟨rfl, rfl⟩)
  obtain ⟨s, hs0⟩ : ∃ s, w.heap.size = s := ⟨_, rfl⟩
  have hs0' := Lib.hid hs0
  simp only [hs0]
  obtain ⟨W0, hW0⟩ : ∃ W0, ((((((w.alloc (.cells #[.slice none 0 0] 25)).alloc (.cells #[.int .i64 0] 30)).alloc (.cells #[.int .i64 0] 3)).alloc (.cells #[.slice none 0 0] 25)).alloc (.cells #[.string S] 9)).alloc (.cells #[.string ⟨#[10]⟩] 9)).alloc (.cells #[.int .i64 1] 3) = W0 := ⟨_, rfl⟩
  rw [hW0]
  have hA0 : Hid (W0.heap.size = s + 1 + 1 + 1 + 1 + 1 + 1 + 1 ∧ AI w xs y s 0 0 W0) := Lib.hid (by rw [← hW0, ← hS]; exact ai_start w xs y hs0'.out)
  clear hW0 hs0
  obtain ⟨z0, hA⟩ := hA0.out
  have hE' := Lib.hid hE
  have hput : ∀ k r W q q', AI w xs y s k r W → W.heap[W0.heap.size + 1]? = some (.loop q) → AI w xs y s k r (W.putObj (W0.heap.size + 1) (.loop q')) := fun k r W q q' h hl => h.put hl (by omega) _
  have hputx : ∀ W q q', AX w xs y s W → W.heap[W0.heap.size + 1]? = some (.loop q) → AX w xs y s (W.putObj (W0.heap.size + 1) (.loop q')) := fun W q q' h hl => h.put hl (by omega) _
  refine range_split (s + 1 + 1 + 1 + 1 + 1) (s + 1 + 1 + 1 + 1) (s + 1 + 1 + 1 + 1 + 1 + 1) xs y hxs hy hlen rfl rfl
    (fun k r W => AI w xs y s k r W) (fun W => AX w xs y s W) (fun W => y = [] ∧ AI w xs y s xs.length xs.length W)
    (fun k r W h => ⟨h.bp, h.bs, h.bv⟩) (fun k W h => h.next) hput hputx (fun W q q' h hl => ⟨h.1, hput _ _ _ _ _ h.2 hl⟩) (fun q => (hA.alloc _).alloc _)
    (fun t => { tmps := #[.string S, undef, .pointer (some ⟨s, 0, none⟩), .pointer (some ⟨s + 1, 0, none⟩), .pointer (some ⟨s + 1 + 1, 0, none⟩), .pointer (some ⟨s + 1 + 1 + 1, 0, none⟩), .string t, undef, undef, .string S,
      .func (.func 70) #[] #[.pointer (some ⟨s + 1 + 1 + 1 + 1 + 1, 0, none⟩), .pointer (some ⟨s + 1 + 1 + 1 + 1, 0, none⟩), .pointer (some ⟨s + 1 + 1 + 1 + 1 + 1 + 1, 0, none⟩)],
      .string t, undef, undef, undef, undef, undef, undef, undef, undef, undef, undef, undef, undef, undef, undef, undef, undef, undef, undef, undef, undef, undef, undef], defers := [] })
    ?assign ?body ?last ?brk ?stop
  case assign =>
    intro t W K hK
    gi_wp2
    exact hK
  case body =>
    intro k x W hk hI
    have hxm : x ∈ xs := List.mem_of_getElem? hk
    have hgl := mem_glue xs y x hxm
    have O := Lib.hid (fun W hE => one_go ⟨x.toArray⟩ (show x.length < 4294967281 by omega) W hE)
    have T := Lib.hid (fun w => Tryz.strings_TrimSuffix ⟨(x ++ [10]).toArray⟩ ⟨#[10]⟩ w (by show (x ++ [10]).length ≤ _; rw [List.length_append, List.length_singleton]; omega))
    have H := Lib.hid (fun w => Tryz.strings_HasSuffix ⟨(x ++ [10]).toArray⟩ ⟨#[10]⟩ w (by show (x ++ [10]).length ≤ _; rw [List.length_append, List.length_singleton]; omega))
    have H : Hid (∀ w, Calls Tryz.prog 31 #[.string ⟨(x ++ [10]).toArray⟩, .string ⟨#[10]⟩] w fun e w' => e = .returned (.bool (Lib.hasSuffix (x ++ [10]) [10])) ∧ w' = w) := H
    have T : Hid (∀ w, Calls Tryz.prog 30 #[.string ⟨(x ++ [10]).toArray⟩, .string ⟨#[10]⟩] w fun e w' => e = .returned (.string ⟨(Lib.trimSuffix (x ++ [10]) [10]).toArray⟩) ∧ w' = w) := T
    rw [suf_line] at H
    rw [trim_line] at T
    have hemp : (⟨(x ++ [10]).toArray⟩ : ByteArray).toList.isEmpty = false := by rw [ByteArray.toList_eq]; show (x ++ [10]).isEmpty = false; simp
    obtain ⟨F, hF⟩ : ∃ F : ByteArray, ⟨(x ++ [10]).toArray⟩ = F := ⟨_, rfl⟩
    rw [hF] at T H hemp ⊢
    clear hF
    have hOn : Hid (oneP ⟨x.toArray⟩ = oneL x) := Lib.hid rfl
    obtain ⟨X, hX⟩ : ∃ X : ByteArray, ⟨x.toArray⟩ = X := ⟨_, rfl⟩
    rw [hX] at T O hOn
    clear hX
    have I1 := Lib.hid hI
    cases ho : oneL x with
    | none =>
      have hP : Hid (oneP X = none) := Lib.hid (hOn.out.trans ho)
      rw [hP.out] at O
      gi_wp2_with (refine ⟨trivial, ?_⟩; gi_at_call 30; refine (CallsIn.inRound _ (callsIn_wide.2 (T.out _))).mono ?_; rintro e w' ⟨rfl, rfl⟩)
      refine ⟨trivial, (CallsIn.inRound _ (callsIn_wide.2 (O.out _ (hE'.out.below I1.out.below (by have := hE'.out.size; have := hs0'.out; omega))))).mono ?_⟩
      rintro e W2 ⟨⟨n, hn, rfl, hsm⟩, hb⟩
      have I2 := Lib.hid (I1.out.later hb)
      obtain ⟨ws, v, hwl, hws, bo, hown⟩ := I2.out.out
      obtain ⟨ao, cap, rfl⟩ := slice_of_own hown
      have hbad : Hid (asmBad xs y k) := Lib.hid ⟨ws, hwl, hws, .inl ⟨x, hk, ho⟩⟩
      have c3 := bo.cell
      have c0 := I2.out.b0.cell
      have c1 := I2.out.b1.cell
      have c2 := I2.out.b2.cell
      have f0 := I2.out.b0.frozen
      have f1 := I2.out.b1.frozen
      have f2 := I2.out.b2.frozen
      have hKW := Lib.hid (keeps_later hb)
      clear hb bo hown hwl hws hsm O T H hI I1
      gi_wp2
      refine ⟨trivial, ?_⟩
      gi_wp2
      gi_region
      all_goals gi_wp2
      all_goals (obtain ⟨r1, r2⟩ := ax_end I2.out hbad.out rfl; exact ⟨hKW.out.trans r1, r2⟩)
    | some u =>
      have hP : Hid (oneP X = some u) := Lib.hid (hOn.out.trans ho)
      rw [hP.out] at O
      gi_wp2_with (refine ⟨trivial, ?_⟩; gi_at_call 30; refine (CallsIn.inRound _ (callsIn_wide.2 (T.out _))).mono ?_; rintro e w' ⟨rfl, rfl⟩)
      refine ⟨trivial, (CallsIn.inRound _ (callsIn_wide.2 (O.out _ (hE'.out.below I1.out.below (by have := hE'.out.size; have := hs0'.out; omega))))).mono ?_⟩
      rintro e W2 ⟨⟨n, hn, rfl, hsm⟩, hb⟩
      obtain rfl : u = n := Option.some.inj (hsm rfl)
      have I2 := Lib.hid (I1.out.later hb)
      obtain ⟨ws, v, hwl, hws, bo, hown⟩ := I2.out.out
      obtain ⟨ao, cap, rfl⟩ := slice_of_own hown
      have hkx : k < xs.length := (List.getElem?_eq_some_iff.1 hk).1
      have hxl := len_glue xs y
      obtain ⟨i0x, hi, hz0, hz1, hz2⟩ := info_parts info38
      have hnews := cell_one_new W2 (.int .u32 (u : Int)) 22
      have c3 := bo.cell
      have hsW : s ≤ W2.heap.size := I2.out.le
      have hKW := Lib.hid (keeps_later hb)
      have hws := Lib.hid hws
      have hwl := Lib.hid hwl
      have hk := Lib.hid hk
      have ho := Lib.hid ho
      clear hb hsm O T hI I1
      gi_wp2_with (first
        | (refine ⟨trivial, ?_⟩; gi_at_call 31; refine (CallsIn.inRound _ (callsIn_wide.2 (H.out _))).mono ?_; rintro e w' ⟨rfl, hw'⟩; obtain rfl : W2 = w' := hw'.symm)
        | (gi_at_builtin; refine wpListIn_append_own _ rfl _ _ 25 rfl s 22 i0x (.int .u32 0) 1 4 Tryz.underlying25 hi hz0 hz1 hz2 rfl (by decide) _ _ _ rfl (hown.alloc _) ⟨W2.heap.size, 0, none⟩ 1 1 [.int .u32 (u : Int)] rfl rfl hnews (fun x hx => by simp at hx; subst hx; rfl) (by unfold maxLen; omega) (by omega) (by simp; omega) ?_; intro v' w3 hown' hgrow hnil
           obtain ⟨q1, q2⟩ := ai_step I2.out hwl.out hws.out bo hown _ hown' hgrow hk.out ho.out
           have q3 := (Boxed.appended bo (by decide) hown I2.out.le (by omega) hown' hgrow).1
           obtain ⟨ao', cap', rfl⟩ := slice_of_own hown'
           have o1 := q3.cell
           have o2 := q3.frozen
           have Q1 := Lib.hid q1
           have Q2 := Lib.hid q2
           clear hown' hgrow hnil q1 q2 q3 hown bo c3 hnews))
      exact ⟨hKW.out.trans Q1.out, Q2.out⟩
  case last =>
    intro W hI
    have I1 := Lib.hid hI
    by_cases hy0 : y = []
    · have hemp : (⟨y.toArray⟩ : ByteArray).toList.isEmpty = true := by rw [hy0, ByteArray.toList_eq]; rfl
      obtain ⟨F, hF⟩ : ∃ F : ByteArray, ⟨y.toArray⟩ = F := ⟨_, rfl⟩
      rw [hF] at hemp ⊢
      have hy0 := Lib.hid hy0
      clear hF hI
      gi_wp2
      exact ⟨KeepsOthers.refl _, hy0.out, I1.out⟩
    · have hyl : y.length < 4294967281 := by
        have : (glue xs y).length = (xs.flatMap fun x => x ++ [10]).length + y.length := by rw [glue, List.length_append]
        omega
      have O := Lib.hid (fun W hE => one_go ⟨y.toArray⟩ hyl W hE)
      have T := Lib.hid (fun w => Tryz.strings_TrimSuffix ⟨y.toArray⟩ ⟨#[10]⟩ w (by show y.length ≤ _; omega))
      have H := Lib.hid (fun w => Tryz.strings_HasSuffix ⟨y.toArray⟩ ⟨#[10]⟩ w (by show y.length ≤ _; omega))
      have H : Hid (∀ w, Calls Tryz.prog 31 #[.string ⟨y.toArray⟩, .string ⟨#[10]⟩] w fun e w' => e = .returned (.bool (Lib.hasSuffix y [10])) ∧ w' = w) := H
      have T : Hid (∀ w, Calls Tryz.prog 30 #[.string ⟨y.toArray⟩, .string ⟨#[10]⟩] w fun e w' => e = .returned (.string ⟨(Lib.trimSuffix y [10]).toArray⟩) ∧ w' = w) := T
      rw [suf_rest y hy] at H
      rw [trim_rest y hy] at T
      have hemp : (⟨y.toArray⟩ : ByteArray).toList.isEmpty = false := by
        rw [ByteArray.toList_eq]
        show y.isEmpty = false
        cases y with
        | nil => exact absurd rfl hy0
        | cons => rfl
      obtain ⟨F, hF⟩ : ∃ F : ByteArray, ⟨y.toArray⟩ = F := ⟨_, rfl⟩
      rw [hF] at T H O hemp ⊢
      clear hF hI
      obtain ⟨bo, hbo⟩ : ∃ bo, (oneP F).isSome = bo := ⟨_, rfl⟩
      rw [hbo] at O
      clear hbo
      gi_wp2_with (refine ⟨trivial, ?_⟩; gi_at_call 30; refine (CallsIn.inRound _ (callsIn_wide.2 (T.out _))).mono ?_; rintro e w' ⟨rfl, rfl⟩)
      refine ⟨trivial, (CallsIn.inRound _ (callsIn_wide.2 (O.out _ (hE'.out.below I1.out.below (by have := hE'.out.size; have := hs0'.out; omega))))).mono ?_⟩
      rintro e W2 ⟨⟨n, hn, rfl, hsm⟩, hb⟩
      have I2 := Lib.hid (I1.out.later hb)
      obtain ⟨ws, v, hwl, hws, bx, hown⟩ := I2.out.out
      obtain ⟨ao, cap, rfl⟩ := slice_of_own hown
      have hbad : Hid (asmBad xs y xs.length) := Lib.hid ⟨ws, hwl, hws, .inr ⟨rfl, hy0⟩⟩
      have c3 := bx.cell
      have c0 := I2.out.b0.cell
      have c1 := I2.out.b1.cell
      have c2 := I2.out.b2.cell
      have f0 := I2.out.b0.frozen
      have f1 := I2.out.b1.frozen
      have f2 := I2.out.b2.frozen
      have hKW := Lib.hid (keeps_later hb)
      clear hb bx hown hwl hws hsm O T I1
      obtain ⟨k, hk⟩ : ∃ k, xs.length = k := ⟨_, rfl⟩
      rw [hk] at hbad I2 c3
      cases bo with
      | false =>
        clear H hk
        gi_wp2
        refine ⟨trivial, ?_⟩
        gi_wp2
        gi_region
        all_goals gi_wp2
        all_goals (obtain ⟨r1, r2⟩ := ax_end I2.out hbad.out rfl; exact ⟨hKW.out.trans r1, r2⟩)
      | true =>
        clear hk
        gi_wp2_with (refine ⟨trivial, ?_⟩; gi_at_call 31; refine (CallsIn.inRound _ (callsIn_wide.2 (H.out _))).mono ?_; rintro e w' ⟨rfl, hw'⟩; obtain rfl : W2 = w' := hw'.symm)
        gi_region
        all_goals gi_wp2
        all_goals (obtain ⟨r1, r2⟩ := ax_end I2.out hbad.out rfl; exact ⟨hKW.out.trans r1, r2⟩)
  case brk =>
    rintro W ⟨hy0, hI⟩ hK
    obtain ⟨ws, v, hwl, hws, bo, hown⟩ := hI.out
    obtain ⟨ao, cap, rfl⟩ := slice_of_own hown
    have c3 := bo.cell
    have c0 := hI.b0.cell
    have c1 := hI.b1.cell
    have c2 := hI.b2.cell
    have f0 := hI.b0.frozen
    have f1 := hI.b1.frozen
    have f2 := hI.b2.frozen
    obtain ⟨m1, m2, m3, m4, m5, m6, m7⟩ := ae_end hI hown rfl
    have M1 := Lib.hid m1
    have M2 := Lib.hid m2
    have M3 := Lib.hid m3
    have M4 := Lib.hid m4
    have M5 := Lib.hid m5
    have M6 := Lib.hid m6
    have M7 := Lib.hid m7
    clear m1 m2 m3 m4 m5 m6 m7
    have hK := Lib.hid hK
    have hwl := Lib.hid hwl
    have hws := Lib.hid hws
    have hy0 := Lib.hid hy0
    clear hI bo hown
    gi_wp2
    obtain ⟨Wf, hWf⟩ : ∃ Wf, ((W.setCell ⟨s, 0, none⟩ (.slice ao xs.length cap)).setCell ⟨s + 1, 0, none⟩ (.int .i64 0)).setCell ⟨s + 1 + 1, 0, none⟩ (.int .i64 0) = Wf := ⟨_, rfl⟩
    rw [hWf] at M1 M2 M3 M4 M5 M6 M7 ⊢
    have hK' := M1.out.same _ _ hK.out rfl
    have gp := grownBy_putObj' Wf W0.heap.size (.deferred none)
    have q0 := (M4.out.kept gp (some_ne (by omega))).cell
    have q1 := (M5.out.kept gp (some_ne (by omega))).cell
    have q2 := (M6.out.kept gp (some_ne (by omega))).cell
    refine ⟨by simp, .inl ⟨_, _, rfl, run_takeDeferred hK', ?_⟩⟩
    refine ⟨.tuple #[.slice ao xs.length cap, .int .i64 0, .int .i64 0], ?_, ?_, .inl ⟨ws, ao, cap, hy0.out, ?_, ?_, ?_⟩⟩
    · simp [results, Tryz.f9, go_sem, q0, q1, q2]
    · rw [hs0'.out]; exact belowPut M2.out M3.out (by omega) _
    · have := hws.out; rwa [List.take_length] at this
    · rw [hwl.out]
    · have h1 := hws.out
      rw [List.take_length] at h1
      exact ws_of_row (ownsRow_putObj M7.out _ hK' rfl) hwl.out (ws_lt h1)
  case stop =>
    rintro W hX hK
    obtain ⟨k, hbad, hb2⟩ := hX.bad
    gi_wp2
    have gp := grownBy_putObj' W W0.heap.size (.deferred none)
    have q0 := (hX.b0.kept gp (some_ne (by omega))).cell
    have q1 := (hX.b1.kept gp (some_ne (by omega))).cell
    have q2 := (hb2.kept gp (some_ne (by omega))).cell
    refine ⟨by simp, .inl ⟨_, _, rfl, run_takeDeferred hK, ?_⟩⟩
    refine ⟨.tuple #[.slice none 0 0, .int .i64 2, .int .i64 (k : Int)], ?_, ?_, .inr ⟨k, hbad, rfl⟩⟩
    · simp [results, Tryz.f9, go_sem, q0, q1, q2]
    · rw [hs0'.out]; exact belowPut hX.below hX.le (by omega) _
end Go.Proofs.YtihnglgknncgpaaGreatDoor.Asm
