/- Boxes of virtual CPUs. -/
import Derived.Test.YtnfkimhhgflfjaaDoorR6
namespace Go.Proofs.YtnfkimhhgflfjaaDoor.Rep
open Go Go.RowKit
set_option linter.unusedVariables false
set_option linter.unusedSimpArgs false
/-! ### Boxes of virtual CPUs -/
/-- The cells of a virtual CPU of which the slice of bytes and the flag are told. -/
def fl (o : Value) (h : Bool) : List Value := [.int .u32 0, .int .u32 0, .int .u32 0, .int .u32 0, .int .u32 0, .int .u32 0, .int .u32 0, .int .u32 0, .int .u32 0, .int .u32 0, .int .u32 0, .int .u32 0, .int .u32 0, .int .u32 0, .int .u32 0, .int .u32 0, .int .u32 0, .int .u32 0, .int .u32 0, .int .u32 0, .int .u32 0, .int .u32 0, .int .u32 0, .int .u32 0, .int .u32 0, .int .u32 0, .int .u32 0, .int .u32 0, .int .u32 0, o, .bool h, .int .i64 0, .slice none 0 0]
theorem fl_one (p : Option Addr) (n c : Nat) (h : Bool) : ∀ u ∈ fl (.slice p n c) h, u.oneCell' = true := by
  intro u hu
  have : (fl (.slice p n c) h).all (fun u => u.oneCell') = true := rfl
  exact List.all_eq_true.1 this u hu
/-- Block x is a box of the cells cs. -/
structure VBox (w : World) (x : Nat) (cs : List Value) : Prop where
  lt : x < w.heap.size
  range : w.rangeAt x 0 cs
  there : w.there x 0 33
theorem VBox.new (w : World) (cs : List Value) (h : cs.length = 33) (t : TypeId) : VBox (w.alloc (.cells cs.toArray t)) w.heap.size cs :=
  ⟨by simp, fun j v hj => by rw [Nat.zero_add, World.cell?_alloc_new]; simpa using hj, fun j hj => ⟨by rw [Nat.zero_add, World.cell?_alloc_new]; simp; omega, World.frozen?_alloc_new _ _ _ _⟩⟩
theorem VBox.later {w w' : World} {x : Nat} {cs : List Value} (h : VBox w x cs) (hb : Below w.heap.size w w') : VBox w' x cs :=
  ⟨Nat.lt_of_lt_of_le h.lt hb.size, fun j v hj => (hb.cell (p := ⟨x, 0 + j, none⟩) h.lt).trans (h.range j v hj), fun j hj => by
    rw [hb.cell (p := ⟨x, 0 + j, none⟩) h.lt, hb.frozen (p := ⟨x, 0 + j, none⟩) h.lt]; exact h.there j hj⟩
theorem VBox.cell {w : World} {x : Nat} {cs : List Value} (h : VBox w x cs) (j : Nat) (v : Value) (hj : cs[j]? = some v) : w.cell? ⟨x, j, none⟩ = some v := by
  have := h.range j v hj
  rwa [Nat.zero_add] at this
theorem VBox.free {w : World} {x : Nat} {cs : List Value} (h : VBox w x cs) (j : Nat) (hj : j < 33) : w.frozen? ⟨x, j, none⟩ = false := by
  have := (h.there j hj).2
  rwa [Nat.zero_add] at this
theorem size_setCell' (w : World) (a : Addr) (v : Value) : (w.setCell a v).heap.size = w.heap.size := by
  have h1 := (grownBy_setCell' w a.block v).size
  unfold World.setCell
  split <;> simp
theorem frozen_setCell' (w : World) (a b : Addr) (v : Value) : (w.setCell a v).frozen? b = w.frozen? b := World.frozen?_setCell _ _ _ _
/-- A cell of a box written. -/
theorem VBox.set {w : World} {x : Nat} {cs : List Value} (h : VBox w x cs) (hl : cs.length = 33) (j : Nat) (hj : j < 33) (v : Value) : VBox (w.setCell ⟨x, j, none⟩ v) x (cs.set j v) := by
  obtain ⟨u, hu⟩ : ∃ u, w.cell? ⟨x, j, none⟩ = some u := ⟨cs[j]'(by omega), h.cell j _ (List.getElem?_eq_getElem _)⟩
  refine ⟨by rw [size_setCell']; exact h.lt, fun i u' hi => ?_, fun i hi => ?_⟩
  · rw [Nat.zero_add]
    by_cases e : i = j
    · subst e
      rw [List.getElem?_set_self (by omega)] at hi
      cases hi
      exact World.cell?_setCell_same _ _ _ hu
    · rw [List.getElem?_set_ne (fun h => e h.symm)] at hi
      rw [World.cell?_setCell_other _ _ _ _ (fun h => e (congrArg Addr.off h).symm), h.cell i u' hi]
  · rw [Nat.zero_add, frozen_setCell']
    refine ⟨?_, h.free i hi⟩
    by_cases e : i = j
    · subst e
      rw [World.cell?_setCell_same _ _ _ hu]
      rfl
    · rw [World.cell?_setCell_other _ _ _ _ (fun h => e (congrArg Addr.off h).symm), h.cell i _ (List.getElem?_eq_getElem (by omega))]
      rfl
theorem VBox.other {w : World} {x y j : Nat} {cs : List Value} (h : VBox w x cs) (hne : x ≠ y) (v : Value) : VBox (w.setCell ⟨y, j, none⟩ v) x cs := by
  refine ⟨by rw [size_setCell']; exact h.lt, fun i u hi => ?_, fun i hi => ?_⟩
  · rw [World.cell?_setCell_other _ _ _ _ (fun e => hne (congrArg Addr.block e).symm)]; exact h.range i u hi
  · rw [World.cell?_setCell_other _ _ _ _ (fun e => hne (congrArg Addr.block e).symm), frozen_setCell']; exact h.there i hi
/-- A whole box written. -/
theorem size_setCells (b : Nat) : ∀ (vs : List Value) (o : Nat) (w : World), (w.setCells b o vs).heap.size = w.heap.size
  | [], _, _ => rfl
  | v :: r, o, w => by rw [World.setCells, size_setCells b r (o + 1), size_setCell']
theorem VBox.all {w : World} {x : Nat} {cs : List Value} (h : VBox w x cs) (vs : List Value) (hl : vs.length = 33) : VBox (w.setCells x 0 vs) x vs :=
  ⟨by rw [size_setCells]; exact h.lt, World.rangeAt_setCells_same _ _ _ _ (by rw [hl]; exact h.there), World.there_setCells h.there _ _ _⟩
theorem VBox.all_other {w : World} {x y : Nat} {cs : List Value} (h : VBox w x cs) (hne : x ≠ y) (vs : List Value) : VBox (w.setCells y 0 vs) x cs :=
  ⟨by rw [size_setCells]; exact h.lt, World.rangeAt_setCells_apart h.range _ _ _ (.inl hne), World.there_setCells h.there _ _ _⟩
theorem frozen_row_other (w : World) (g : Nat) (cs : Array Value) (a : Addr) (h : a.block ≠ g) : (w.setRow g cs).frozen? a = w.frozen? a := by
  unfold World.frozen?
  rw [setRow_other _ _ _ _ h]
theorem frozen_row_same (w : World) (g j : Nat) (old cs : Array Value) (t : TypeId) (hg : w.heap[g]? = some (.cells old t (0, 0))) : (w.setRow g cs).frozen? ⟨g, j, none⟩ = false := by
  simp [World.frozen?, setRow_heap w g old cs t _ hg]
theorem VBox.row_other {w : World} {x y : Nat} {cs : List Value} (h : VBox w x cs) (hne : x ≠ y) (vs : Array Value) : VBox (w.setRow y vs) x cs := by
  refine ⟨by rw [setRow_size]; exact h.lt, fun i u hi => ?_, fun i hi => ?_⟩
  · rw [cell_setRow_other _ _ _ _ hne]; exact h.range i u hi
  · rw [cell_setRow_other _ _ _ _ hne, frozen_row_other _ _ _ _ hne]; exact h.there i hi
theorem VBox.row {w : World} {x : Nat} {cs : List Value} (h : VBox w x cs) {old : Array Value} {t : TypeId} (hg : w.heap[x]? = some (.cells old t (0, 0))) (vs : List Value) (hl : vs.length = 33) : VBox (w.setRow x vs.toArray) x vs := by
  refine ⟨by rw [setRow_size]; exact h.lt, fun i u hi => ?_, fun i hi => ?_⟩
  · rw [Nat.zero_add, cell_setRow_same w x i old _ t _ hg]; simpa using hi
  · rw [Nat.zero_add, cell_setRow_same w x i old _ t _ hg, frozen_row_same w x i old _ t hg]
    exact ⟨by simp; omega, rfl⟩
/-- A box of a virtual CPU begins there. -/
def BoxHead (w : World) (g : Nat) : Prop := ∃ old, w.heap[g]? = some (.cells old 30 (0, 0)) ∧ old.size = 33
theorem VBox.of_head {w : World} {x : Nat} (h : BoxHead w x) (vs : List Value) (hl : vs.length = 33) : VBox (w.setRow x vs.toArray) x vs := by
  obtain ⟨old, hg, _⟩ := h
  refine ⟨by rw [setRow_size]; exact (Array.getElem?_eq_some_iff.1 hg).1, fun i u hi => ?_, fun i hi => ?_⟩
  · rw [Nat.zero_add, cell_setRow_same w x i old _ 30 _ hg]; simpa using hi
  · rw [Nat.zero_add, cell_setRow_same w x i old _ 30 _ hg, frozen_row_same w x i old _ 30 hg]
    exact ⟨by simp; omega, rfl⟩
theorem Bytes.row {w : World} {p : Option Addr} {l : List UInt8} (h : Bytes w p l) {x : Nat} (hne : ∀ k a, k < l.length → p = some a → a.block ≠ x) (vs : Array Value) : Bytes (w.setRow x vs) p l := fun k c hk => by
  obtain ⟨a, h1, h2, h3⟩ := h k c hk
  have hb : (a.add k).block ≠ x := by
    have e : (a.add k).block = a.block := add_block a k
    rw [e]
    exact hne k a (List.getElem?_eq_some_iff.1 hk).1 h1
  exact ⟨a, h1, by rw [setRow_size]; exact h2, by rw [cell_setRow_other _ _ _ _ hb]; exact h3⟩
theorem below_cells' {B b : Nat} {W : World} (hb : B ≤ b) : ∀ (vs : List Value) (o : Nat) (w : World), Below B W w → Below B W (w.setCells b o vs)
  | [], _, _, h => h
  | v :: r, o, w, h => by rw [World.setCells]; exact below_cells' hb r (o + 1) _ (h.setCell (p := ⟨b, o, none⟩) hb v)
theorem Bytes.put {w : World} {p : Option Addr} {l : List UInt8} (h : Bytes w p l) {x j : Nat} (hne : ∀ k a, k < l.length → p = some a → a.block ≠ x) (v : Value) : Bytes (w.setCell ⟨x, j, none⟩ v) p l := fun k c hk => by
  obtain ⟨a, h1, h2, h3⟩ := h k c hk
  have hb : (a.add k).block ≠ x := by
    have e : (a.add k).block = a.block := add_block a k
    rw [e]
    exact hne k a (List.getElem?_eq_some_iff.1 hk).1 h1
  exact ⟨a, h1, by rw [size_setCell']; exact h2, by rw [World.cell?_setCell_other _ _ _ _ (fun e => hb (congrArg Addr.block e).symm)]; exact h3⟩
theorem Bytes.cells {w : World} {p : Option Addr} {l : List UInt8} (h : Bytes w p l) {x : Nat} (hne : ∀ k a, k < l.length → p = some a → a.block ≠ x) : ∀ (vs : List Value) (o : Nat), Bytes (w.setCells x o vs) p l := by
  intro vs
  induction vs generalizing w with
  | nil => intro o; exact h
  | cons v r ih => intro o; rw [World.setCells]; exact ih (h.put hne v) (o + 1)
theorem run_storeCells_row (w : World) (g : Nat) (t : TypeId) (old : Array Value) (cells : List Value) (hg : w.heap[g]? = some (.cells old t (0, 0))) (hi : (Tryd.prog.info? 30).map (·.size) = some cells.length) (ho : old.size = cells.length) (h1 : cells.toArray.all (·.oneCell') = true) :
    (storeCells ⟨g, 0, none⟩ cells 0).run Tryd.prog w = .ok () (w.setRow g cells.toArray) := by
  have := run_storeVar_row (P := Tryd.prog) w g t 30 old cells.toArray hg hi ho h1
  cases hq : Tryd.prog.info? 30 with
  | none => simp [hq] at hi
  | some i =>
    have hs : cells.length = i.size := by simp [hq] at hi; omega
    simpa [storeVar, sizeOf, typeInfo, hq, Value.cells, hs] using this
theorem results_cell_mid {fn : Func} {p : Tmp} {ty : TypeId} (h : fn.results = #[.cell p ty]) (tmps : Array Value) (w : World) (g : Nat) (cs : List Value) (d : TypeDesc)
    (hp : tmps.getD p undef = .pointer (some ⟨g, 0, none⟩)) (hg : w.rangeAt g 0 cs) (hu : Tryd.prog.underlying ty = some d) (hd : d.isRow = true) (hi : (Tryd.prog.info? ty).map (·.size) = some cs.length) :
    (results fn tmps).run Tryd.prog w = .ok (.agg cs.toArray) w := by
  have hp' : tmps[p]?.getD undef = .pointer (some ⟨g, 0, none⟩) := by simpa using hp
  simp [results, h, hp', asAddr, run_loadVar_mid w g 0 ty cs d hg hu hd hi]
end Go.Proofs.YtnfkimhhgflfjaaDoor.Rep
