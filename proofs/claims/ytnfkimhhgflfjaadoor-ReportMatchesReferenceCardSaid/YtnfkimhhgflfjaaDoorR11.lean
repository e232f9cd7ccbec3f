/- The state of report.Parse. -/
import Derived.Test.YtnfkimhhgflfjaaDoorR10
namespace Go.Proofs.YtnfkimhhgflfjaaDoor.Rep
open Go Go.RowKit Go.Shelf
set_option linter.unusedVariables false
set_option linter.unusedSimpArgs false
/-! ### The state of report.Parse -/
/-- The fields of a text. -/
def pieces (s : ByteArray) : List ByteArray := Lib.splitB ⟨#[32]⟩ 0 (Lib.countB s ⟨#[32]⟩) s
theorem pieces_len (s : ByteArray) : (pieces s).length = Lib.countB s ⟨#[32]⟩ + 1 := Lib.splitB_all _ (by decide) 0 _ s rfl
theorem splitB_size (sep : ByteArray) : ∀ (k : Nat) (s : ByteArray), ∀ x ∈ Lib.splitB sep 0 k s, x.size ≤ s.size
  | 0, s, x, hx => by
    rw [Lib.splitB_zero, List.mem_singleton] at hx
    subst hx
    exact Nat.le_refl _
  | k + 1, s, x, hx => by
    unfold Lib.splitB at hx
    split at hx
    · rw [List.mem_singleton] at hx
      subst hx
      exact Nat.le_refl _
    · rcases List.mem_cons.1 hx with rfl | hx
      · rw [ByteArray.size_extract]; omega
      · have := splitB_size sep k _ x hx
        rw [ByteArray.size_extract] at this
        omega
/-- The fields of a line. -/
def pcs (x : List UInt8) : List (List UInt8) := (pieces ⟨x.toArray⟩).map (fun b => b.data.toList)
theorem pcs_len (x : List UInt8) : ∀ z ∈ pcs x, z.length ≤ x.length := by
  intro z hz
  obtain ⟨b, hb, rfl⟩ := List.mem_map.1 hz
  have := splitB_size ⟨#[32]⟩ _ _ b hb
  have e : b.size = b.data.toList.length := Lib.size_eq b
  have e2 : (⟨x.toArray⟩ : ByteArray).size = x.length := List.size_toArray
  omega
def evV (l : List (List UInt8)) : Ev := { kind := kindI (l.getD 0 []), pos := ((min (readN (l.getD 1 [])) 1099511627776 : Nat) : Int), time := (readN (l.getD 2 []) : Int) }
/-- What a line makes of the state. -/
def stepV (k : Nat) (v : Vp) (l : List (List UInt8)) : Vp :=
  if k = 0 ∧ l.length = 5 then firstV (l.getD 1 []) (l.getD 2 []) (l.getD 3 []) (l.getD 4 [])
  else if 0 < k ∧ l.length = 3 then { v with log := v.log ++ [evV l] } else v
def foldV : Nat → Vp → List (List UInt8) → Vp
  | _, v, [] => v
  | k, v, x :: r => foldV (k + 1) (stepV k v (pcs x)) r
def zeroV : Vp := { regs := List.replicate 16 0, pc := 0, csr := List.replicate 12 0, out := [], halted := false, done := 0, log := [] }
theorem foldV_snoc : ∀ (l : List (List UInt8)) (k : Nat) (v : Vp) (x : List UInt8), foldV k v (l ++ [x]) = stepV (k + l.length) (foldV k v l) (pcs x)
  | [], k, v, x => rfl
  | z :: l, k, v, x => by
    rw [List.cons_append, foldV, foldV, foldV_snoc l (k + 1), List.length_cons]
    congr 1
    omega
theorem kindI_bd (l : List UInt8) : -1 ≤ kindI l ∧ kindI l ≤ 3 := by
  unfold kindI
  repeat' split
  all_goals omega
theorem evV_wf (l : List (List UInt8)) : (evV l).wf := by
  have h1 := kindI_bd (l.getD 0 [])
  have h2 := readN_lt (l.getD 1 [])
  have h3 := readN_lt (l.getD 2 [])
  unfold Ev.wf evV
  dsimp only
  omega
theorem firstV_wf (a b c d : List UInt8) : (firstV a b c d).wf := by
  have h1 := readN_lt a
  exact ⟨rfl, rfl, by unfold w32 firstV; dsimp only; omega, by unfold firstV; dsimp only; omega, fun e he => (by cases he), fun z hz => by unfold firstV at hz; rw [List.eq_of_mem_replicate hz]; unfold w32; omega, fun z hz => by unfold firstV at hz; rw [List.eq_of_mem_replicate hz]; unfold w32; omega⟩
theorem zeroV_wf : zeroV.wf :=
  ⟨rfl, rfl, by unfold w32 zeroV; dsimp only; omega, by unfold zeroV; dsimp only; omega, fun e he => (by cases he), fun z hz => by unfold zeroV at hz; rw [List.eq_of_mem_replicate hz]; unfold w32; omega, fun z hz => by unfold zeroV at hz; rw [List.eq_of_mem_replicate hz]; unfold w32; omega⟩
theorem stepV_wf {k : Nat} {v : Vp} (h : v.wf) (l : List (List UInt8)) : (stepV k v l).wf := by
  unfold stepV
  split
  · exact firstV_wf _ _ _ _
  · split
    · exact ⟨h.regs, h.csr, h.pc, h.done, fun e he => by
        rcases List.mem_append.1 he with he | he
        · exact h.log e he
        · rw [List.mem_singleton] at he; subst he; exact evV_wf l, h.r32, h.c32⟩
    · exact h
/-- What stands before round k of report.Parse. -/
structure PI (w : World) (xs : List (List UInt8)) (y : List UInt8) (s k r : Nat) (v : Vp) (W : World) : Prop where
  below : Below s w W
  le : s + 6 ≤ W.heap.size
  env : Env W
  n9 : 9 ≤ s
  b0 : VBox W s (fl (.slice none 0 0) false)
  wf : v.wf
  bv : ∃ p c q d, VBox W (s + 1) (vcs v p c q d) ∧ Bytes W p v.out ∧ (∀ (k : Nat) a, k < v.out.length → p = some a → s + 6 ≤ a.block ∧ (Value.slice q v.log.length d).ownBlock ≠ some a.block) ∧ W.ownsRow (s + 6) 49 3 (.slice q v.log.length d) v.log.length (v.log.flatMap ecl)
  cnt : Boxed W (s + 2) 3 (.int .i64 (k : Int))
  bs : Boxed W (s + 3) 9 (.string ⟨(glue (xs.drop r) y).toArray⟩)
  bp : Boxed W (s + 4) 9 (.string ⟨#[10]⟩)
  b1 : Boxed W (s + 5) 3 (.int .i64 1)
theorem cell_putObj {W : World} {a : Addr} {l : Nat} (h : a.block ≠ l) (o : Obj) : (W.putObj l o).cell? a = W.cell? a := by
  unfold World.cell?
  rw [World.putObj_heap_other h]
theorem frozen_putObj {W : World} {a : Addr} {l : Nat} (h : a.block ≠ l) (o : Obj) : (W.putObj l o).frozen? a = W.frozen? a := by
  unfold World.frozen?
  rw [World.putObj_heap_other h]
theorem size_putObj' (W : World) (l : Nat) (o : Obj) : (W.putObj l o).heap.size = W.heap.size := by simp [World.putObj]
theorem VBox.put {W : World} {x l : Nat} {cs : List Value} (h : VBox W x cs) (hne : x ≠ l) (o : Obj) : VBox (W.putObj l o) x cs :=
  ⟨by rw [size_putObj']; exact h.lt, fun j u hj => by rw [cell_putObj hne]; exact h.range j u hj, fun j hj => by rw [cell_putObj hne, frozen_putObj hne]; exact h.there j hj⟩
theorem boxPut {W : World} {B l : Nat} {t : TypeId} {v : Value} {r : Loop} (h : Boxed W B t v) (hl : W.heap[l]? = some (.loop r)) (o : Obj) : Boxed (W.putObj l o) B t v :=
  (World.putObj_heap_other (fun e => by rw [Boxed, e, hl] at h; cases h)).trans h
theorem belowPut {b l : Nat} {w W : World} (h : Below b w W) (hb : b ≤ W.heap.size) (hl : b ≤ l) (o : Obj) : Below b w (W.putObj l o) :=
  h.grown (grownBy_putObj' W l o) hb (fun k e => by cases e; exact hl)
theorem Bytes.putObj {W : World} {p : Option Addr} {l : List UInt8} (h : Bytes W p l) {b : Nat} {r : Loop} (hb : W.heap[b]? = some (.loop r)) (o : Obj) : Bytes (W.putObj b o) p l := fun k c hk => by
  obtain ⟨a, h1, h2, h3⟩ := h k c hk
  have hne : (a.add k).block ≠ b := fun e => by
    unfold World.cell? at h3
    rw [e, hb] at h3
    cases h3
  exact ⟨a, h1, by rw [size_putObj']; exact h2, by rw [cell_putObj hne]; exact h3⟩
theorem PI.put {w W : World} {xs : List (List UInt8)} {y : List UInt8} {s k r l : Nat} {v : Vp} {q : Loop} (h : PI w xs y s k r v W) (hl : W.heap[l]? = some (.loop q)) (hs : s + 6 ≤ l) (o : Loop) : PI w xs y s k r v (W.putObj l (.loop o)) := by
  obtain ⟨p, c, q', d, h1, h2, h3, h4⟩ := h.bv
  have hle := h.le
  have hb : Below (s + 6) W (W.putObj l (.loop o)) := belowPut (Below.refl _ W) hle hs _
  exact ⟨belowPut h.below (by omega) (by omega) _, by rw [size_putObj']; exact hle, h.env.below hb (by have := h.n9; omega), h.n9, h.b0.put (by omega) _, h.wf,
    ⟨p, c, q', d, h1.put (by omega) _, h2.putObj hl _, h3, ownsRow_putObj h4 _ hl rfl⟩, boxPut h.cnt hl _, boxPut h.bs hl _, boxPut h.bp hl _, boxPut h.b1 hl _⟩
theorem PI.later {w W W' : World} {xs : List (List UInt8)} {y : List UInt8} {s k r : Nat} {v : Vp} (h : PI w xs y s k r v W) (hb : Below W.heap.size W W') : PI w xs y s k r v W' := by
  obtain ⟨p, c, q', d, h1, h2, h3, h4⟩ := h.bv
  have hle := h.le
  have g := grown_of_below hb
  exact ⟨h.below.trans (hb.mono (by omega)), Nat.le_trans hle hb.size, h.env.later hb, h.n9, h.b0.later hb, h.wf,
    ⟨p, c, q', d, h1.later hb, h2.later hb, h3, h4.kept g (by cases (Value.slice q' v.log.length d).ownBlock <;> simp)⟩, h.cnt.kept g (by simp), h.bs.kept g (by simp), h.bp.kept g (by simp), h.b1.kept g (by simp)⟩
theorem PI.alloc {w W : World} {xs : List (List UInt8)} {y : List UInt8} {s k r : Nat} {v : Vp} (h : PI w xs y s k r v W) (o : Obj) : PI w xs y s k r v (W.alloc o) := h.later ((Below.refl _ W).alloc (Nat.le_refl _) o)
theorem grown_set (W : World) (a : Addr) (v : Value) : W.grownBy (W.setCell a v) (some a.block) :=
  ⟨rfl, rfl, rfl, (KeepsWalks.setCell W _ v).size, fun k _ hk => Below.heap_setCell _ _ _ k (fun e => hk (by rw [e]))⟩
theorem ownNe {W : World} {n₀ e sz k : Nat} {v : Value} {l : List Value} (h : W.ownsRow n₀ e sz v k l) {b : Nat} (hb : b < n₀) : some b ≠ v.ownBlock := fun e => by
  have := (h.lt b e.symm).1
  omega
/-- A store into a box below the rows. -/
theorem PI.cell {w W : World} {xs : List (List UInt8)} {y : List UInt8} {s k r : Nat} {v : Vp} (h : PI w xs y s k r v W) {b j : Nat} (u : Value) (hb : s + 2 ≤ b) (hb6 : b < s + 6)
    : Below (s + 1) W (W.setCell ⟨b, j, none⟩ u) ∧ VBox (W.setCell ⟨b, j, none⟩ u) s (fl (.slice none 0 0) false) ∧ (∃ p c q d, VBox (W.setCell ⟨b, j, none⟩ u) (s + 1) (vcs v p c q d) ∧ Bytes (W.setCell ⟨b, j, none⟩ u) p v.out ∧ (∀ (k : Nat) a, k < v.out.length → p = some a → s + 6 ≤ a.block ∧ (Value.slice q v.log.length d).ownBlock ≠ some a.block) ∧ (W.setCell ⟨b, j, none⟩ u).ownsRow (s + 6) 49 3 (.slice q v.log.length d) v.log.length (v.log.flatMap ecl)) := by
  obtain ⟨p, c, q', d, h1, h2, h3, h4⟩ := h.bv
  refine ⟨(Below.refl _ W).setCell (p := ⟨b, j, none⟩) (by show s + 1 ≤ b; omega) u, h.b0.other (by omega) u, p, c, q', d, h1.other (by omega) u, h2.put (fun k a hk ha => by have := (h3 k a hk ha).1; omega) u, h3, h4.kept (grown_set W ⟨b, j, none⟩ u) (.inr (ownNe h4 hb6).symm)⟩
theorem PI.next {w W : World} {xs : List (List UInt8)} {y : List UInt8} {s k : Nat} {v : Vp} (h : PI w xs y s (k + 1) k v W) : PI w xs y s (k + 1) (k + 1) v (W.setCell ⟨s + 3, 0, none⟩ (.string ⟨(glue (xs.drop (k + 1)) y).toArray⟩)) := by
  obtain ⟨b, h0, h1⟩ := h.cell (b := s + 3) (j := 0) (.string ⟨(glue (xs.drop (k + 1)) y).toArray⟩) (by omega) (by omega)
  have g := grownBy_setCell' W (s + 3) (.string ⟨(glue (xs.drop (k + 1)) y).toArray⟩)
  have hle := h.le
  have n9 := h.n9
  exact ⟨h.below.trans ((b.mono (by omega)).trans (Below.refl _ _)), Nat.le_trans hle g.size, h.env.below b (by omega), h.n9, h0, h.wf, h1, h.cnt.kept g (some_ne (by omega)), h.bs.set _, h.bp.kept g (some_ne (by omega)), h.b1.kept g (some_ne (by omega))⟩
theorem PI.count {w W : World} {xs : List (List UInt8)} {y : List UInt8} {s k r : Nat} {v : Vp} (h : PI w xs y s k r v W) : PI w xs y s (k + 1) r v (W.setCell ⟨s + 2, 0, none⟩ (.int .i64 ((k : Int) + 1))) := by
  obtain ⟨b, h0, h1⟩ := h.cell (b := s + 2) (j := 0) (.int .i64 ((k : Int) + 1)) (by omega) (by omega)
  have g := grownBy_setCell' W (s + 2) (.int .i64 ((k : Int) + 1))
  have hle := h.le
  have n9 := h.n9
  exact ⟨h.below.trans (b.mono (by omega)), Nat.le_trans hle g.size, h.env.below b (by omega), h.n9, h0, h.wf, h1, h.cnt.set _, h.bs.kept g (some_ne (by omega)), h.bp.kept g (some_ne (by omega)), h.b1.kept g (some_ne (by omega))⟩
theorem grown_cells (b : Nat) : ∀ (vs : List Value) (o : Nat) (W : World), W.grownBy (W.setCells b o vs) (some b)
  | [], _, W => ⟨rfl, rfl, rfl, Nat.le_refl _, fun _ _ _ => rfl⟩
  | v :: r, o, W => by
    have h1 := grown_set W ⟨b, o, none⟩ v
    have h2 := grown_cells b r (o + 1) (W.setCell ⟨b, o, none⟩ v)
    rw [World.setCells]
    exact ⟨h2.os.trans h1.os, h2.tape.trans h1.tape, h2.output.trans h1.output, Nat.le_trans h1.size h2.size, fun k hk hne => (h2.block k (Nat.lt_of_lt_of_le hk h1.size) hne).trans (h1.block k hk hne)⟩
/-- The state that report.first tells is stored. -/
theorem PI.first {w W : World} {xs : List (List UInt8)} {y : List UInt8} {s k r : Nat} {v v' : Vp} (h : PI w xs y s k r v W) (hw : v'.wf) (hl : v'.log = []) {p : Option Addr} {c : Nat} (hb : Bytes W p v'.out) (hp : ∀ (k : Nat) a, k < v'.out.length → p = some a → s + 6 ≤ a.block) :
    PI w xs y s k r v' (W.setCells (s + 1) 0 (vcs v' p c none 0)) := by
  obtain ⟨p0, c0, q0, d0, h1, h2, h3, h4⟩ := h.bv
  have g := grown_cells (s + 1) (vcs v' p c none 0) 0 W
  have b := below_cells' (B := s + 1) (b := s + 1) (Nat.le_refl _) (vcs v' p c none 0) 0 W (Below.refl _ W)
  have hle := h.le
  have n9 := h.n9
  refine ⟨h.below.trans (b.mono (by omega)), Nat.le_trans hle g.size, h.env.below b (by omega), h.n9, h.b0.all_other (by omega) _, hw, ⟨p, c, none, 0, h1.all _ (vcs_len hw _ _ _ _), hb.cells (fun k a hk ha => by have := hp k a hk ha; omega) _ _, fun k a hk ha => ⟨hp k a hk ha, by simp [Value.ownBlock]⟩, ?_⟩, h.cnt.kept g (some_ne (by omega)), h.bs.kept g (some_ne (by omega)), h.bp.kept g (some_ne (by omega)), h.b1.kept g (some_ne (by omega))⟩
  rw [hl]
  exact World.ownsRow_nil _ _ _ _
theorem vcs_log {v : Vp} (h : v.wf) (e : Ev) (p : Option Addr) (c : Nat) (q q' : Option Addr) (d d' : Nat) : (vcs v p c q d).set 32 (.slice q' (v.log.length + 1) d') = vcs { v with log := v.log ++ [e] } p c q' d' := by
  apply List.ext_getElem?
  intro j
  have hl := vcs_len h p c q d
  have hw : ({ v with log := v.log ++ [e] } : Vp).regs = v.regs := rfl
  by_cases hj : j = 32
  · subst hj
    rw [List.getElem?_set_self (by omega)]
    unfold vcs
    simp [h.regs, h.csr]
  · rw [List.getElem?_set_ne (fun e => hj e.symm)]
    unfold vcs
    dsimp only
    rcases Nat.lt_or_ge j 16 with h1 | h1
    · rw [List.getElem?_append_left (by rw [List.length_map, h.regs]; exact h1), List.getElem?_append_left (by rw [List.length_map, h.regs]; exact h1)]
    · rw [List.getElem?_append_right (by rw [List.length_map, h.regs]; exact h1), List.getElem?_append_right (by rw [List.length_map, h.regs]; exact h1), List.length_map, h.regs]
      cases hk : j - 16 with
      | zero => rfl
      | succ m =>
        rw [List.getElem?_cons_succ, List.getElem?_cons_succ]
        rcases Nat.lt_or_ge m 12 with h2 | h2
        · rw [List.getElem?_append_left (by rw [List.length_map, h.csr]; exact h2), List.getElem?_append_left (by rw [List.length_map, h.csr]; exact h2)]
        · rw [List.getElem?_append_right (by rw [List.length_map, h.csr]; exact h2), List.getElem?_append_right (by rw [List.length_map, h.csr]; exact h2), List.length_map, h.csr]
          match hm : m - 12 with
          | 0 => rfl
          | 1 => rfl
          | 2 => rfl
          | 3 => omega
          | n + 4 => rfl
/-- An event is appended. -/
theorem PI.app {w W W' w3 : World} {xs : List (List UInt8)} {y : List UInt8} {s k r : Nat} {v : Vp} (h : PI w xs y s k r v W) {p q : Option Addr} {c d : Nat}
    (h1 : VBox W (s + 1) (vcs v p c q d)) (h2 : Bytes W p v.out) (h3 : ∀ (k : Nat) a, k < v.out.length → p = some a → s + 6 ≤ a.block ∧ (Value.slice q v.log.length d).ownBlock ≠ some a.block) (h4 : W.ownsRow (s + 6) 49 3 (.slice q v.log.length d) v.log.length (v.log.flatMap ecl))
    (e : Ev) (he : e.wf) (hb : Below W.heap.size W W') {g cap : Nat} (hown : w3.ownsRow (s + 6) 49 3 (.slice (some ⟨g, 0, none⟩) (v.log.length + 1) cap) (v.log.length + 1) (v.log.flatMap ecl ++ ecl e)) (hgrow : W'.grownBy w3 (Value.slice q v.log.length d).ownBlock)
    (hat : (Value.slice q v.log.length d).ownBlock = some g ∨ W.heap.size ≤ g) :
    PI w xs y s k r { v with log := v.log ++ [e] } (w3.setCell ⟨s + 1, 32, none⟩ (.slice (some ⟨g, 0, none⟩) (v.log.length + 1) cap)) := by
  have hle := h.le
  have n9 := h.n9
  have hB3 : Below (s + 6) W w3 := (hb.mono hle).grown hgrow (Nat.le_trans hle hb.size) (fun j hj => by have := (h4.lt j hj).1; omega)
  have hB := hB3.setCell (p := ⟨s + 1, 32, none⟩)
  have kb : ∀ {b t u}, Boxed W b t u → b < s + 6 → b ≠ s + 1 → Boxed (w3.setCell ⟨s + 1, 32, none⟩ (.slice (some ⟨g, 0, none⟩) (v.log.length + 1) cap)) b t u := fun {b t u} hbx hlt hne => by
    have hz : Boxed w3 b t u := (hB3.block b hlt).trans hbx
    exact hz.kept (grown_set w3 ⟨s + 1, 32, none⟩ _) (some_ne hne)
  have vb : ∀ {x cs}, VBox W x cs → x < s + 6 → VBox w3 x cs := fun {x cs} hv hx =>
    ⟨Nat.lt_of_lt_of_le hv.lt hB3.size, fun j u hj => (hB3.cell (p := ⟨x, 0 + j, none⟩) hx).trans (hv.range j u hj), fun j hj => by
      rw [hB3.cell (p := ⟨x, 0 + j, none⟩) hx, hB3.frozen (p := ⟨x, 0 + j, none⟩) hx]; exact hv.there j hj⟩
  have hby : Bytes w3 p v.out := fun j x hj => by
    obtain ⟨a, ha, hal, hac⟩ := h2 j x hj
    have hab : (a.add j).block = a.block := add_block a j
    refine ⟨a, ha, ?_, ?_⟩
    · exact Nat.lt_of_lt_of_le hal (Nat.le_trans hb.size hgrow.size)
    · have hne := (h3 j a (List.getElem?_eq_some_iff.1 hj).1 ha).2
      have e1 : w3.heap[(a.add j).block]? = W'.heap[(a.add j).block]? := hgrow.block _ (Nat.lt_of_lt_of_le hal hb.size) (by rw [hab]; exact fun e => hne e.symm)
      have e2 : w3.cell? (a.add j) = W'.cell? (a.add j) := by unfold World.cell?; rw [e1]
      rw [e2, hb.cell (p := a.add j) hal]
      exact hac
  have hlog : ({ v with log := v.log ++ [e] } : Vp).log.length = v.log.length + 1 := by simp
  have hS : Below (s + 1) w3 (w3.setCell ⟨s + 1, 32, none⟩ (.slice (some ⟨g, 0, none⟩) (v.log.length + 1) cap)) := (Below.refl _ w3).setCell (p := ⟨s + 1, 32, none⟩) (Nat.le_refl _) _
  refine ⟨(h.below.trans (hB3.mono (by omega))).trans (hS.mono (by omega)), by rw [size_setCell']; exact Nat.le_trans hle hB3.size, (h.env.below hB3 (by omega)).below hS (by omega), n9, (vb h.b0 (by omega)).other (by omega) _, ⟨h.wf.regs, h.wf.csr, h.wf.pc, h.wf.done, fun e' he' => ?_, h.wf.r32, h.wf.c32⟩,
    ⟨p, c, some ⟨g, 0, none⟩, cap, ?_, hby.put (fun j a hk ha => by have := (h3 j a hk ha).1; omega) _, fun j a hk ha => ⟨(h3 j a hk ha).1, ?_⟩, ?_⟩, kb h.cnt (by omega) (by omega), kb h.bs (by omega) (by omega), kb h.bp (by omega) (by omega), kb h.b1 (by omega) (by omega)⟩
  · rcases List.mem_append.1 he' with he' | he'
    · exact h.wf.log e' he'
    · rw [List.mem_singleton] at he'; subst he'; exact he
  · have := (vb h1 (by omega)).set (vcs_len h.wf p c q d) 32 (by omega) (.slice (some ⟨g, 0, none⟩) (v.log.length + 1) cap)
    rw [vcs_log h.wf e p c q (some ⟨g, 0, none⟩) d cap] at this
    exact this
  · intro hgb
    have hga : g = a.block := by simpa [Value.ownBlock] using hgb
    rcases hat with hat | hat
    · have := (h3 j a hk ha).2
      rw [hat, hga] at this
      exact this rfl
    · obtain ⟨a', ha', hal, _⟩ := h2 j _ (List.getElem?_eq_getElem hk)
      rw [ha] at ha'
      cases ha'
      rw [add_block] at hal
      omega
  · rw [hlog]
    have : ({ v with log := v.log ++ [e] } : Vp).log.flatMap ecl = v.log.flatMap ecl ++ ecl e := by simp
    rw [this]
    exact hown.kept (grown_set w3 ⟨s + 1, 32, none⟩ _) (.inr (ownNe hown (by show s + 1 < s + 6; omega)).symm)
end Go.Proofs.YtnfkimhhgflfjaaDoor.Rep
