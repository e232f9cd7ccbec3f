/- The state of gaolerref28.Get. -/
import Derived.Test.YtnfkimhhgflfjaaDoorR37
import Derived.Test.YtnfkimhhgflfjaaDoorR14
namespace Go.Proofs.YtnfkimhhgflfjaaDoor.Rep
open Go Go.RowKit Go.Shelf
set_option linter.unusedVariables false
set_option linter.unusedSimpArgs false
/-! ### The state of gaolerref28.Get -/
theorem vcs_set16 {v : Vp} (h : v.wf) (x : Int) (p q : Option Addr) (c d : Nat) : (vcs v p c q d).set 16 (.int .u32 x) = vcs { v with pc := x } p c q d := by
  unfold vcs
  simp [List.set_append, h.regs, h.csr]
theorem vcs_set29 {v : Vp} (h : v.wf) (z : UInt8) (p p' q : Option Addr) (c c' d : Nat) : (vcs v p c q d).set 29 (.slice p' (v.out.length + 1) c') = vcs { v with out := v.out ++ [z] } p' c' q d := by
  unfold vcs
  simp [List.set_append, h.regs, h.csr]
theorem vcs_set30 {v : Vp} (h : v.wf) (b : Bool) (p q : Option Addr) (c d : Nat) : (vcs v p c q d).set 30 (.bool b) = vcs { v with halted := b } p c q d := by
  unfold vcs
  simp [List.set_append, h.regs, h.csr]
theorem vcs_set31 {v : Vp} (h : v.wf) (x : Int) (p q : Option Addr) (c d : Nat) : (vcs v p c q d).set 31 (.int .i64 x) = vcs { v with done := x } p c q d := by
  unfold vcs
  simp [List.set_append, h.regs, h.csr]
theorem VBox.grown {W W' : World} {x : Nat} {cs : List Value} {row : Option Nat} (h : VBox W x cs) (g : W.grownBy W' row) (hr : row ≠ some x) : VBox W' x cs :=
  ⟨Nat.lt_of_lt_of_le h.lt g.size, fun j v hj => (g.cell_far ⟨x, 0 + j, none⟩ h.lt (fun e => hr e.symm)).trans (h.range j v hj), fun j hj => by
    rw [g.cell_far ⟨x, 0 + j, none⟩ h.lt (fun e => hr e.symm), g.frozen_far ⟨x, 0 + j, none⟩ h.lt (fun e => hr e.symm)]; exact h.there j hj⟩
/-- What stands throughout Get behind the call of words: the two boxes, the lines. -/
structure GC (w W1 : World) (s : Nat) (cs : List Value) (W : World) : Prop where
  below : Below s w W
  le : W1.heap.size ≤ W.heap.size
  ge : s + 2 ≤ W1.heap.size
  env : Env W
  n9 : 9 ≤ s
  keep : ∀ k, s + 2 ≤ k → k < W1.heap.size → W.heap[k]? = W1.heap[k]?
  b0 : VBox W s (fl (.slice none 0 0) false)
  bx : VBox W (s + 1) cs
theorem GC.grown {w W1 W W' : World} {s : Nat} {cs : List Value} {row : Option Nat} (h : GC w W1 s cs W) (g : W.grownBy W' row) (hr : ∀ x, row = some x → W1.heap.size ≤ x) : GC w W1 s cs W' := by
  have hle := h.le
  have hge := h.ge
  have n9 := h.n9
  have hB : Below s W W' := (Below.refl s W).grown g (by omega) (fun k hk => by have := hr k hk; omega)
  exact ⟨h.below.trans hB, Nat.le_trans hle g.size, hge, h.env.below hB n9, n9,
    fun k h1 h2 => (g.block k (by omega) (fun e => by have := hr k e.symm; omega)).trans (h.keep k h1 h2), h.b0.grown g (fun e => by have := hr s e; omega), h.bx.grown g (fun e => by have := hr (s + 1) e; omega)⟩
theorem GC.later {w W1 W W' : World} {s : Nat} {cs : List Value} (h : GC w W1 s cs W) (hb : Below W.heap.size W W') : GC w W1 s cs W' := h.grown (grown_of_below hb) (fun x e => by cases e)
theorem GC.slot {w W1 W : World} {s : Nat} {cs : List Value} (h : GC w W1 s cs W) (hl : cs.length = 33) (j : Nat) (hj : j < 33) (u : Value) : GC w W1 s (cs.set j u) (W.setCell ⟨s + 1, j, none⟩ u) := by
  have n9 := h.n9
  have hB : Below s W (W.setCell ⟨s + 1, j, none⟩ u) := (Below.refl s W).setCell (p := ⟨s + 1, j, none⟩) (by show s ≤ s + 1; omega) u
  exact ⟨h.below.trans hB, by rw [size_setCell']; exact h.le, h.ge, h.env.below hB n9, n9, fun k h1 h2 => (Below.heap_setCell _ _ _ k (fun e => by have : k = s + 1 := by first | exact e | exact e.symm
                                                                                                                                                   omega)).trans (h.keep k h1 h2), h.b0.other (by omega) u, h.bx.set hl j hj u⟩
/-- The state: what is read so far stands in the second box. -/
structure GX (w W1 : World) (s : Nat) (v : Vp) (p : Option Addr) (c : Nat) (q : Option Addr) (d : Nat) (W : World) : Prop where
  core : GC w W1 s (vcs v p c q d) W
  wf : v.wf
  ro : W.ownsRow W1.heap.size 5 1 (.slice p v.out.length c) v.out.length (Lib.byteCells v.out)
  rl : W.ownsRow W1.heap.size 49 3 (.slice q v.log.length d) v.log.length (v.log.flatMap ecl)
  ne : ∀ g, (Value.slice p v.out.length c).ownBlock = some g → (Value.slice q v.log.length d).ownBlock ≠ some g
section
variable {w W1 W W' W2 w3 : World} {s : Nat} {v : Vp} {p q : Option Addr} {c d : Nat}
theorem GX.grown {row : Option Nat} (h : GX w W1 s v p c q d W) (g : W.grownBy W' row) (hr : ∀ x, row = some x → W1.heap.size ≤ x ∧ (Value.slice p v.out.length c).ownBlock ≠ some x ∧ (Value.slice q v.log.length d).ownBlock ≠ some x) : GX w W1 s v p c q d W' := by
  refine ⟨h.core.grown g (fun x e => (hr x e).1), h.wf, h.ro.kept g ?_, h.rl.kept g ?_, h.ne⟩
  · cases row with
    | none => cases (Value.slice p v.out.length c).ownBlock <;> simp
    | some x => exact .inr (hr x rfl).2.1
  · cases row with
    | none => cases (Value.slice q v.log.length d).ownBlock <;> simp
    | some x => exact .inr (hr x rfl).2.2
theorem GX.later (h : GX w W1 s v p c q d W) (hb : Below W.heap.size W W') : GX w W1 s v p c q d W' := h.grown (grown_of_below hb) (fun x e => by cases e)
theorem GX.slot (h : GX w W1 s v p c q d W) (j : Nat) (hj : j < 33) (u : Value) (v' : Vp) (hw : v'.wf) (ho : v'.out = v.out) (hl : v'.log = v.log) (hs : (vcs v p c q d).set j u = vcs v' p c q d) : GX w W1 s v' p c q d (W.setCell ⟨s + 1, j, none⟩ u) := by
  have hge := h.core.ge
  refine ⟨hs ▸ h.core.slot (vcs_len h.wf p c q d) j hj u, hw, ?_, ?_, ?_⟩
  · rw [ho]
    exact h.ro.kept (grown_set W ⟨s + 1, j, none⟩ u) (.inr (ownNe h.ro (by show s + 1 < _; omega)).symm)
  · rw [hl]
    exact h.rl.kept (grown_set W ⟨s + 1, j, none⟩ u) (.inr (ownNe h.rl (by show s + 1 < _; omega)).symm)
  · rw [ho, hl]
    exact h.ne
theorem GX.str (h : GX w W1 s v p c q d W) {g j : Nat} {u : Value} (hg : s + 2 ≤ g) (hc : W1.cell? ⟨g, j, none⟩ = some u) : W.cell? ⟨g, j, none⟩ = some u :=
  (World.cell?_of_block (a := ⟨g, j, none⟩) (h.core.keep g hg (World.block_lt_of_cell? W1 _ hc))).trans hc
/-- A byte is appended. -/
theorem GX.outA (h : GX w W1 s v p c q d W) (hb : Below W.heap.size W W2) (z : UInt8) {g cap : Nat}
    (hown : w3.ownsRow W1.heap.size 5 1 (.slice (some ⟨g, 0, none⟩) (v.out.length + 1) cap) (v.out.length + 1) (Lib.byteCells v.out ++ [.int .u8 (z.toNat : Int)])) (hgrow : W2.grownBy w3 (Value.slice p v.out.length c).ownBlock) (hat : (Value.slice p v.out.length c).ownBlock = some g ∨ g = W2.heap.size) :
    GX w W1 s { v with out := v.out ++ [z] } (some ⟨g, 0, none⟩) cap q d (w3.setCell ⟨s + 1, 29, none⟩ (.slice (some ⟨g, 0, none⟩) (v.out.length + 1) cap)) := by
  have hge := h.core.ge
  have h2 := h.later hb
  have c3 := h2.core.grown hgrow (fun x e => (h.ro.lt x e).1)
  have hgB : W1.heap.size ≤ g := by
    rcases hown.2 with ⟨h0, _⟩ | ⟨b, cap', cur, he, hb', _⟩
    · cases h0
    · cases he; exact hb'
  have ho : (v.out ++ [z]).length = v.out.length + 1 := by simp
  have l3 : w3.ownsRow W1.heap.size 49 3 (.slice q v.log.length d) v.log.length (v.log.flatMap ecl) := h2.rl.kept hgrow (by
    cases hq : (Value.slice q v.log.length d).ownBlock with
    | none => exact .inl rfl
    | some k => exact .inr (fun e => h.ne k e.symm hq))
  refine ⟨?_, ⟨h.wf.regs, h.wf.csr, h.wf.pc, h.wf.done, h.wf.log, h.wf.r32, h.wf.c32⟩, ?_, l3.kept (grown_set w3 ⟨s + 1, 29, none⟩ _) (.inr (ownNe l3 (by show s + 1 < _; omega)).symm), fun k hk => ?_⟩
  · have := c3.slot (vcs_len h.wf p c q d) 29 (by decide) (.slice (some ⟨g, 0, none⟩) (v.out.length + 1) cap)
    rwa [vcs_set29 h.wf z p (some ⟨g, 0, none⟩) q c cap d] at this
  · dsimp only
    rw [ho, ← bc_snoc]
    exact hown.kept (grown_set w3 ⟨s + 1, 29, none⟩ _) (.inr (ownNe hown (by show s + 1 < _; omega)).symm)
  · simp only [Value.ownBlock] at hk
    cases hk
    intro hq
    rcases hat with e | e
    · exact h.ne g e hq
    · have := (h2.rl.lt g hq).2
      omega
/-- An event is appended. -/
theorem GX.logA (h : GX w W1 s v p c q d W) (hb : Below W.heap.size W W2) (e : Ev) (he : e.wf) {g cap : Nat}
    (hown : w3.ownsRow W1.heap.size 49 3 (.slice (some ⟨g, 0, none⟩) (v.log.length + 1) cap) (v.log.length + 1) (v.log.flatMap ecl ++ ecl e)) (hgrow : W2.grownBy w3 (Value.slice q v.log.length d).ownBlock) (hat : (Value.slice q v.log.length d).ownBlock = some g ∨ g = W2.heap.size) :
    GX w W1 s { v with log := v.log ++ [e] } p c (some ⟨g, 0, none⟩) cap (w3.setCell ⟨s + 1, 32, none⟩ (.slice (some ⟨g, 0, none⟩) (v.log.length + 1) cap)) := by
  have hge := h.core.ge
  have h2 := h.later hb
  have c3 := h2.core.grown hgrow (fun x e => (h.rl.lt x e).1)
  have ho : (v.log ++ [e]).length = v.log.length + 1 := by simp
  have o3 : w3.ownsRow W1.heap.size 5 1 (.slice p v.out.length c) v.out.length (Lib.byteCells v.out) := h2.ro.kept hgrow (by
    cases hq : (Value.slice p v.out.length c).ownBlock with
    | none => exact .inl rfl
    | some k => exact .inr (fun e => h.ne k hq e.symm))
  refine ⟨?_, ⟨h.wf.regs, h.wf.csr, h.wf.pc, h.wf.done, fun e' he' => ?_, h.wf.r32, h.wf.c32⟩, o3.kept (grown_set w3 ⟨s + 1, 32, none⟩ _) (.inr (ownNe o3 (by show s + 1 < _; omega)).symm), ?_, fun k hk hq => ?_⟩
  · have := c3.slot (vcs_len h.wf p c q d) 32 (by decide) (.slice (some ⟨g, 0, none⟩) (v.log.length + 1) cap)
    rwa [vcs_log h.wf e p c q (some ⟨g, 0, none⟩) d cap] at this
  · rcases List.mem_append.1 he' with he' | he'
    · exact h.wf.log e' he'
    · rw [List.mem_singleton] at he'; subst he'; exact he
  · dsimp only
    rw [ho]
    have : (v.log ++ [e]).flatMap ecl = v.log.flatMap ecl ++ ecl e := by simp
    rw [this]
    exact hown.kept (grown_set w3 ⟨s + 1, 32, none⟩ _) (.inr (ownNe hown (by show s + 1 < _; omega)).symm)
  · simp only [Value.ownBlock] at hq
    cases hq
    rcases hat with e | e
    · exact h.ne g hk e
    · have := (h2.ro.lt g hk).2
      omega
theorem GX.vc (h : GX w W1 s v p c q d W) : VC W (vcs v p c q d) v := ⟨h.wf, p, c, q, d, rfl, bytes_of_row h.ro rfl, evs_of_row h.rl rfl⟩
end
/-- A box of an event. -/
structure EB (W : World) (x : Nat) (e : Ev) : Prop where
  lt : x < W.heap.size
  range : W.rangeAt x 0 (ecl e)
  there : W.there x 0 3
theorem EB.later {W W' : World} {x : Nat} {e : Ev} (h : EB W x e) (hb : Below W.heap.size W W') : EB W' x e :=
  ⟨Nat.lt_of_lt_of_le h.lt hb.size, fun j v hj => (hb.cell (p := ⟨x, 0 + j, none⟩) h.lt).trans (h.range j v hj), fun j hj => by
    rw [hb.cell (p := ⟨x, 0 + j, none⟩) h.lt, hb.frozen (p := ⟨x, 0 + j, none⟩) h.lt]; exact h.there j hj⟩
theorem EB.new (w : World) (e : Ev) : EB (w.alloc (.cells (ecl e).toArray 49)) w.heap.size e :=
  ⟨by simp, fun j v hj => by rw [Nat.zero_add, World.cell?_alloc_new]; simpa using hj, fun j hj => ⟨by rw [Nat.zero_add, World.cell?_alloc_new]; simp [ecl]; omega, World.frozen?_alloc_new _ _ _ _⟩⟩
theorem EB.all {W : World} {x : Nat} {e : Ev} (h : EB W x e) (e' : Ev) : EB (W.setCells x 0 (ecl e')) x e' :=
  ⟨by rw [size_setCells]; exact h.lt, World.rangeAt_setCells_same _ _ _ _ h.there, World.there_setCells h.there _ _ _⟩
theorem EB.kind {W : World} {x : Nat} {e : Ev} (h : EB W x e) (k : Int) : EB (W.setCell ⟨x, 0, none⟩ (.int .i64 k)) x { e with kind := k } := by
  have h0 : W.cell? ⟨x, 0, none⟩ = some (.int .i64 e.kind) := h.range 0 _ rfl
  have hc : ∀ i, i ≠ 0 → (W.setCell ⟨x, 0, none⟩ (.int .i64 k)).cell? ⟨x, i, none⟩ = W.cell? ⟨x, i, none⟩ := fun i hi => World.cell?_setCell_other _ _ _ _ (fun e => hi (congrArg Addr.off e).symm)
  refine ⟨by rw [size_setCell']; exact h.lt, fun j v hj => ?_, fun j hj => ?_⟩
  · rw [Nat.zero_add]
    match j, hj with
    | 0, hj => cases hj; exact World.cell?_setCell_same _ _ _ h0
    | 1, hj => rw [hc 1 (by decide)]; exact h.range 1 v hj
    | 2, hj => rw [hc 2 (by decide)]; exact h.range 2 v hj
    | j + 3, hj => simp [ecl] at hj
  · rw [Nat.zero_add, frozen_setCell']
    have ht := h.there j hj
    rw [Nat.zero_add] at ht
    refine ⟨?_, ht.2⟩
    by_cases e : j = 0
    · subst e
      rw [World.cell?_setCell_same _ _ _ h0]
      rfl
    · rw [hc j e]
      exact ht.1
/-- The state within a line that tells an event: the event's box beside it. -/
structure GE (w W1 : World) (s : Nat) (v : Vp) (p : Option Addr) (c : Nat) (q : Option Addr) (d : Nat) (x : Nat) (e : Ev) (W : World) : Prop where
  gx : GX w W1 s v p c q d W
  eb : EB W x e
  ge : W1.heap.size ≤ x
  np : (Value.slice p v.out.length c).ownBlock ≠ some x
  nq : (Value.slice q v.log.length d).ownBlock ≠ some x
section
variable {w W1 W W' : World} {s x : Nat} {v : Vp} {p q : Option Addr} {c d : Nat} {e : Ev}
theorem GE.later (h : GE w W1 s v p c q d x e W) (hb : Below W.heap.size W W') : GE w W1 s v p c q d x e W' := ⟨h.gx.later hb, h.eb.later hb, h.ge, h.np, h.nq⟩
theorem GE.new (h : GX w W1 s v p c q d W) (e : Ev) : GE w W1 s v p c q d W.heap.size e (W.alloc (.cells (ecl e).toArray 49)) :=
  ⟨h.later ((Below.refl _ W).alloc (Nat.le_refl _) _), EB.new W e, h.core.le, fun e => by have := (h.ro.lt _ e).2; omega, fun e => by have := (h.rl.lt _ e).2; omega⟩
theorem GE.kind (h : GE w W1 s v p c q d x e W) (k : Int) : GE w W1 s v p c q d x { e with kind := k } (W.setCell ⟨x, 0, none⟩ (.int .i64 k)) :=
  ⟨h.gx.grown (grown_set W ⟨x, 0, none⟩ _) (fun y hy => by cases hy; exact ⟨h.ge, h.np, h.nq⟩), h.eb.kind k, h.ge, h.np, h.nq⟩
theorem GE.all (h : GE w W1 s v p c q d x e W) (e' : Ev) : GE w W1 s v p c q d x e' (W.setCells x 0 (ecl e')) :=
  ⟨h.gx.grown (grown_cells x (ecl e') 0 W) (fun y hy => by cases hy; exact ⟨h.ge, h.np, h.nq⟩), h.eb.all e', h.ge, h.np, h.nq⟩
end
/-! ### A drawn region outside a round, where the last operation may write what a load has read -/
theorem region_t {ops : Array Oper} {Q : Exit → Act → World → Prop} {S : World → Prop} {z id : Nat} {a : Act} {w : World} (h : wpT ops Q S z ops.size (Array.replicate ops.size false) a w.drew) : (Code.region id ops true).wp Tryd.prog Q a w :=
  wp_region_any (by kernel_rfl) (wpT_any _ _ _ _ h)
end Go.Proofs.YtnfkimhhgflfjaaDoor.Rep
