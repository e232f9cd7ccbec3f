/- report.first, walked. -/
import Derived.Test.YtnfkimhhgflfjaaDoorR7
import Derived.Laws.CopyOwn
namespace Go.Proofs.YtnfkimhhgflfjaaDoor.Rep
open Go Go.RowKit Go.Shelf
set_option linter.unusedVariables false
set_option linter.unusedSimpArgs false
/-! ### report.first -/
/-- What stands in a walk of report.first. -/
structure FT (W : World) (w : World) : Prop where
  below : Below W.heap.size W w
  env : Env w
  b2 : VBox w W.heap.size (fl (.slice none 0 0) false)
theorem FT.later {W w w' : World} (h : FT W w) (hb : Below w.heap.size w w') : FT W w' := ⟨h.below.trans (hb.mono h.below.size), h.env.later hb, h.b2.later hb⟩
theorem FT.drew {W w : World} (h : FT W w) : FT W w.drew := h.later (Below.refl _ _).drew
theorem FT.alloc {W w : World} (h : FT W w) (o : Obj) : FT W (w.alloc o) := h.later ((Below.refl _ w).alloc (Nat.le_refl _) o)
abbrev fS (W : World) (g : Nat) (A B : ByteArray) (i j : Nat) (w : World) : Prop := w.cell? ⟨g, i, none⟩ = some (.string A) ∧ w.cell? ⟨g, j, none⟩ = some (.string B) ∧ Hid (FT W w ∧ g < W.heap.size ∧ 9 ≤ W.heap.size)
theorem fS.later {W : World} {g : Nat} {A B : ByteArray} {i j : Nat} {w w' : World} (h : fS W g A B i j w) (hb : Below w.heap.size w w') : fS W g A B i j w' := by
  obtain ⟨h1, h2, h3, h4, h9⟩ := h
  have hg : g < w.heap.size := Nat.lt_of_lt_of_le h4 h3.below.size
  exact ⟨(hb.cell (p := ⟨g, i, none⟩) hg).trans h1, (hb.cell (p := ⟨g, j, none⟩) hg).trans h2, h3.later hb, h4, h9⟩
theorem fS.row {W : World} {g : Nat} {A B : ByteArray} {i j : Nat} {w : World} (h : fS W g A B i j w) {x : Nat} (hx : W.heap.size < x) (vs : Array Value) : fS W g A B i j (w.setRow x vs) := by
  obtain ⟨h1, h2, h3, h4, h9⟩ := h
  have hb := Go.below_setRow (B := W.heap.size) (g := x) (Below.refl W.heap.size w) (by omega) vs
  refine ⟨?_, ?_, ⟨Go.below_setRow h3.below (by omega) vs, h3.env.below hb h9, ?_⟩, h4, h9⟩
  · rw [cell_setRow_other _ _ _ _ (fun e => by dsimp only at e; omega)]; exact h1
  · rw [cell_setRow_other _ _ _ _ (fun e => by dsimp only at e; omega)]; exact h2
  · exact h3.b2.row_other (by omega) vs
theorem fS.ft {W : World} {a b c : Prop} {w : World} (h : a ∧ b ∧ Hid (FT W w ∧ c)) : FT W w := h.2.2.1
theorem wp_store_eq {o : Oper} {a : Act} {w : World} {K : Act → World → Prop} {Q : Exit → Act → World → Prop} (x y : Operand) (ho : o.op = .store 30 x y) (g : Nat) (cells : List Value) (hx : a.eval x = .pointer (some ⟨g, 0, none⟩)) (hy : a.eval y = .agg cells.toArray) (hg : BoxHead w g) (hl : cells.length = 33) (h1 : ∀ u ∈ cells, u.oneCell' = true) :
    Oper.wp Tryd.prog o a w K Q = K (a.put o.dst undef) (w.setRow g cells.toArray) := by
  obtain ⟨old, h2, h3⟩ := hg
  unfold Oper.wp execOp
  simp only [ho, hx, hy, Instr.storeAt, Instr.sureAddr, Sem.run_bind, Sem.run_pure, Result.andThen_ok, run_storeVar_row (P := Tryd.prog) w g 30 30 old cells.toArray h2 (by rw [List.size_toArray, hl]; exact size30) (h3.trans hl.symm) (all_oneCell_toArray h1)]
  rfl
theorem wp_st_first {K : Act → World → Prop} {Q : Exit → Act → World → Prop} (t0 t1 t2 t4 t5 t6 t7 t8 t9 t10 t11 t13 t14 t15 t16 t17 t18 t19 t20 t21 t22 t23 t24 t25 t26 t27 : Value) (s : String) (af : Array Edge) (w : World) (g : Nat) (p : Option Addr) (n c : Nat) (b : Bool) (h : BoxHead w g) :
    Oper.wp Tryd.prog { dst := none, op := .store 30 (.tmp 3) (.tmp 12), type := 0, pos := s, after := af, guard := none } { tmps := #[t0, t1, t2, .pointer (some ⟨g, 0, none⟩), t4, t5, t6, t7, t8, t9, t10, t11, .agg #[Value.int .u32 0, Value.int .u32 0, Value.int .u32 0, Value.int .u32 0, Value.int .u32 0, Value.int .u32 0, Value.int .u32 0, Value.int .u32 0, Value.int .u32 0, Value.int .u32 0, Value.int .u32 0, Value.int .u32 0, Value.int .u32 0, Value.int .u32 0, Value.int .u32 0, Value.int .u32 0, Value.int .u32 0, Value.int .u32 0, Value.int .u32 0, Value.int .u32 0, Value.int .u32 0, Value.int .u32 0, Value.int .u32 0, Value.int .u32 0, Value.int .u32 0, Value.int .u32 0, Value.int .u32 0, Value.int .u32 0, Value.int .u32 0, .slice p n c, .bool b, .int .i64 0, .slice none 0 0], t13, t14, t15, t16, t17, t18, t19, t20, t21, t22, t23, t24, t25, t26, t27], defers := [] } w K Q = K { tmps := #[t0, t1, t2, .pointer (some ⟨g, 0, none⟩), t4, t5, t6, t7, t8, t9, t10, t11, .agg #[Value.int .u32 0, Value.int .u32 0, Value.int .u32 0, Value.int .u32 0, Value.int .u32 0, Value.int .u32 0, Value.int .u32 0, Value.int .u32 0, Value.int .u32 0, Value.int .u32 0, Value.int .u32 0, Value.int .u32 0, Value.int .u32 0, Value.int .u32 0, Value.int .u32 0, Value.int .u32 0, Value.int .u32 0, Value.int .u32 0, Value.int .u32 0, Value.int .u32 0, Value.int .u32 0, Value.int .u32 0, Value.int .u32 0, Value.int .u32 0, Value.int .u32 0, Value.int .u32 0, Value.int .u32 0, Value.int .u32 0, Value.int .u32 0, .slice p n c, .bool b, .int .i64 0, .slice none 0 0], t13, t14, t15, t16, t17, t18, t19, t20, t21, t22, t23, t24, t25, t26, t27], defers := [] } (w.setRow g #[Value.int .u32 0, Value.int .u32 0, Value.int .u32 0, Value.int .u32 0, Value.int .u32 0, Value.int .u32 0, Value.int .u32 0, Value.int .u32 0, Value.int .u32 0, Value.int .u32 0, Value.int .u32 0, Value.int .u32 0, Value.int .u32 0, Value.int .u32 0, Value.int .u32 0, Value.int .u32 0, Value.int .u32 0, Value.int .u32 0, Value.int .u32 0, Value.int .u32 0, Value.int .u32 0, Value.int .u32 0, Value.int .u32 0, Value.int .u32 0, Value.int .u32 0, Value.int .u32 0, Value.int .u32 0, Value.int .u32 0, Value.int .u32 0, .slice p n c, .bool b, .int .i64 0, .slice none 0 0]) :=
  wp_store_eq (.tmp 3) (.tmp 12) rfl g _ rfl rfl h rfl (fl_one p n c b)
attribute [local go_sem ↓] wp_st_first
/-- What stands between two reads. -/
structure RS (x : Nat) (p : Option Addr) (out : List UInt8) (cs : List Value) (w : World) : Prop where
  box : VBox w x cs
  by' : Bytes w p out
theorem RS.later {x : Nat} {p : Option Addr} {out : List UInt8} {cs : List Value} {w w' : World} (h : RS x p out cs w) (hb : Below w.heap.size w w') : RS x p out cs w' := ⟨h.box.later hb, h.by'.later hb⟩
theorem below_drewBack {w w' : World} (h : Below w.drew.heap.size w.drew w') : Below w.heap.size w w' := (Below.refl _ w).drew.trans h
theorem fS.put {W : World} {g : Nat} {A B : ByteArray} {i j : Nat} {w : World} (h : fS W g A B i j w) {x : Nat} (hx : W.heap.size < x) (k : Nat) (v : Value) : fS W g A B i j (w.setCell ⟨x, k, none⟩ v) := by
  obtain ⟨h1, h2, h3, h4, h9⟩ := h
  have hb := (Below.refl W.heap.size w).setCell (p := ⟨x, k, none⟩) (by show W.heap.size ≤ x; omega) v
  refine ⟨?_, ?_, ⟨h3.below.setCell (p := ⟨x, k, none⟩) (by show W.heap.size ≤ x; omega) v, h3.env.below hb h9, h3.b2.other (by omega) v⟩, h4, h9⟩
  · rw [World.cell?_setCell_other _ _ _ _ (fun e => by have := congrArg Addr.block e; dsimp only at this; omega)]; exact h1
  · rw [World.cell?_setCell_other _ _ _ _ (fun e => by have := congrArg Addr.block e; dsimp only at this; omega)]; exact h2
theorem bytes_ne {w : World} {p : Option Addr} {l : List UInt8} (h : Bytes w p l) {k : Nat} {a : Addr} (hk : k < l.length) (ha : p = some a) : a.block ≠ w.heap.size := by
  obtain ⟨b, h1, h2, _⟩ := h k _ (List.getElem?_eq_getElem hk)
  rw [ha] at h1
  cases h1
  rw [add_block] at h2
  omega
theorem first_low (W0 : World) : Below W0.heap.size W0 ((W0.alloc (.cells #[Value.int .u32 0, Value.int .u32 0, Value.int .u32 0, Value.int .u32 0, Value.int .u32 0, Value.int .u32 0, Value.int .u32 0, Value.int .u32 0, Value.int .u32 0, Value.int .u32 0, Value.int .u32 0, Value.int .u32 0, Value.int .u32 0, Value.int .u32 0, Value.int .u32 0, Value.int .u32 0, Value.int .u32 0, Value.int .u32 0, Value.int .u32 0, Value.int .u32 0, Value.int .u32 0, Value.int .u32 0, Value.int .u32 0, Value.int .u32 0, Value.int .u32 0, Value.int .u32 0, Value.int .u32 0, Value.int .u32 0, Value.int .u32 0, .slice none 0 0, .bool false, .int .i64 0, .slice none 0 0] 30)).drew) := ((Below.refl _ W0).alloc (Nat.le_refl _) _).drew
def firstV (l1 l2 l3 l4 : List UInt8) : Vp := { regs := List.replicate 16 0, pc := ((readN l2 % 4294967296 : Nat) : Int), csr := List.replicate 12 0, out := unhexL l4, halted := decide (l3 = [104, 97, 108, 116, 101, 100]), done := ((min (readN l1) 1099511627777 : Nat) : Int), log := [] }
/-- How report.first ends. -/
def FirE (W : World) (v : Vp) (e : Ending) (w' : World) : Prop := v.wf ∧ ∃ p c, e = .returned (.agg (vcs v p c none 0).toArray) ∧ Bytes w' p v.out ∧ ∀ (k : Nat) a, k < v.out.length → p = some a → W.heap.size ≤ a.block
theorem unhexL_len : ∀ l : List UInt8, 2 * (unhexL l).length ≤ l.length
  | [] => by simp [unhexL]
  | [_] => by simp [unhexL]
  | a :: b :: r => by have := unhexL_len r; simp [unhexL]; omega
set_option maxRecDepth 100000 in
set_option maxHeartbeats 16000000 in
theorem first_any (g cap : Nat) (hcap : 5 ≤ cap) (l1 l2 l3 l4 : List UInt8) (W : World) (hE : Env W) (hg : g < W.heap.size) (h1 : W.cell? ⟨g, 1, none⟩ = some (.string ⟨l1.toArray⟩)) (h2 : W.cell? ⟨g, 2, none⟩ = some (.string ⟨l2.toArray⟩)) (h3 : W.cell? ⟨g, 3, none⟩ = some (.string ⟨l3.toArray⟩)) (h4 : W.cell? ⟨g, 4, none⟩ = some (.string ⟨l4.toArray⟩))
    (hl1 : l1.length ≤ 1000000) (hl2 : l2.length ≤ 1000000) (hl4 : l4.length ≤ 1000000) :
    Calls Tryd.prog 25 #[.slice (some ⟨g, 0, none⟩) 5 cap] W fun e w' => FirE W (firstV l1 l2 l3 l4) e w' ∧ Below W.heap.size W w' := by
  have h9 := Lib.hid hE.size
  have U := Lib.hid (fun w => unhex_any l4 hl4 w)
  have R1 := Lib.hid (fun w hE => read_any ⟨l1.toArray⟩ (show l1.length ≤ _ by omega) w hE)
  have R2 := Lib.hid (fun w hE => read_any ⟨l2.toArray⟩ (show l2.length ≤ _ by omega) w hE)
  have hn1 := readN_lt l1
  have hn2 := readN_lt l2
  obtain ⟨b, hb⟩ : ∃ b, decide (l3 = [104, 97, 108, 116, 101, 100]) = b := ⟨_, rfl⟩
  have hF0 : Hid (FT W (W.alloc (.cells #[Value.int .u32 0, Value.int .u32 0, Value.int .u32 0, Value.int .u32 0, Value.int .u32 0, Value.int .u32 0, Value.int .u32 0, Value.int .u32 0, Value.int .u32 0, Value.int .u32 0, Value.int .u32 0, Value.int .u32 0, Value.int .u32 0, Value.int .u32 0, Value.int .u32 0, Value.int .u32 0, Value.int .u32 0, Value.int .u32 0, Value.int .u32 0, Value.int .u32 0, Value.int .u32 0, Value.int .u32 0, Value.int .u32 0, Value.int .u32 0, Value.int .u32 0, Value.int .u32 0, Value.int .u32 0, Value.int .u32 0, Value.int .u32 0, .slice none 0 0, .bool false, .int .i64 0, .slice none 0 0] 30))) := Lib.hid ⟨(Below.refl _ W).alloc (Nat.le_refl _) _, hE.later ((Below.refl _ W).alloc (Nat.le_refl _) _), VBox.new W (fl (.slice none 0 0) false) rfl 30⟩
  obtain ⟨S1, hS1⟩ : ∃ S : ByteArray, ⟨l1.toArray⟩ = S := ⟨_, rfl⟩
  obtain ⟨S2, hS2⟩ : ∃ S : ByteArray, ⟨l2.toArray⟩ = S := ⟨_, rfl⟩
  obtain ⟨S4, hS4⟩ : ∃ S : ByteArray, ⟨l4.toArray⟩ = S := ⟨_, rfl⟩
  have hv : Hid (firstV l1 l2 l3 l4 = { regs := List.replicate 16 0, pc := ((readN l2 % 4294967296 : Nat) : Int), csr := List.replicate 12 0, out := unhexL l4, halted := b, done := ((min (readN l1) 1099511627777 : Nat) : Int), log := [] }) := Lib.hid (by rw [← hb]; rfl)
  obtain ⟨S3, hS3⟩ : ∃ S : ByteArray, ⟨l3.toArray⟩ = S := ⟨_, rfl⟩
  have hcmp : (S3.toList == [104, 97, 108, 116, 101, 100]) = b := by
    rw [← hb, ← hS3]
    by_cases e : l3 = [104, 97, 108, 116, 101, 100]
    · rw [e, decide_eq_true rfl, ByteArray.toList_eq]; rfl
    · rw [decide_eq_false e, ByteArray.toList_eq]
      exact beq_eq_false_iff_ne.2 e
  have R1 : Hid (∀ w, Env w → Calls Tryd.prog 27 #[.string S1] w fun e w' => e = .returned (.int .u64 (readN l1 : Int)) ∧ Below w.heap.size w w') := by rw [← hS1]; exact R1
  have R2 : Hid (∀ w, Env w → Calls Tryd.prog 27 #[.string S2] w fun e w' => e = .returned (.int .u64 (readN l2 : Int)) ∧ Below w.heap.size w w') := by rw [← hS2]; exact R2
  obtain ⟨n1, hN1⟩ : ∃ n, readN l1 = n := ⟨_, rfl⟩
  obtain ⟨n2, hN2⟩ : ∃ n, readN l2 = n := ⟨_, rfl⟩
  obtain ⟨out, hout⟩ : ∃ o, unhexL l4 = o := ⟨_, rfl⟩
  rw [hS1] at h1
  rw [hS2] at h2
  rw [hS3] at h3
  rw [hS4] at h4 U
  rw [hN1, hN2, hout] at hv
  obtain ⟨V, hVe⟩ : ∃ V : Vp, firstV l1 l2 l3 l4 = V := ⟨_, rfl⟩
  have HVe : Hid (V = { regs := List.replicate 16 0, pc := ((n2 % 4294967296 : Nat) : Int), csr := List.replicate 12 0, out := out, halted := b, done := ((min n1 1099511627777 : Nat) : Int), log := [] }) := Lib.hid (hVe.symm.trans hv.out)
  rw [hVe]
  clear hVe
  rw [hN1] at R1 hn1
  rw [hN2] at R2 hn2
  rw [hout] at U
  have hsz33 : (Tryd.prog.info? 30).map (·.size) = some (33 : Nat) := size30
  clear hS1 hS2 hS3 hS4 hN1 hN2 hout hb hv hE hl1 hl2 hl4
  have G := Lib.hid (show g < W.heap.size from hg)
  have lt0 : g < (W.alloc (.cells #[Value.int .u32 0, Value.int .u32 0, Value.int .u32 0, Value.int .u32 0, Value.int .u32 0, Value.int .u32 0, Value.int .u32 0, Value.int .u32 0, Value.int .u32 0, Value.int .u32 0, Value.int .u32 0, Value.int .u32 0, Value.int .u32 0, Value.int .u32 0, Value.int .u32 0, Value.int .u32 0, Value.int .u32 0, Value.int .u32 0, Value.int .u32 0, Value.int .u32 0, Value.int .u32 0, Value.int .u32 0, Value.int .u32 0, Value.int .u32 0, Value.int .u32 0, Value.int .u32 0, Value.int .u32 0, Value.int .u32 0, Value.int .u32 0, .slice none 0 0, .bool false, .int .i64 0, .slice none 0 0] 30)).heap.size := by simp; omega
  have k1 : (W.alloc (.cells #[Value.int .u32 0, Value.int .u32 0, Value.int .u32 0, Value.int .u32 0, Value.int .u32 0, Value.int .u32 0, Value.int .u32 0, Value.int .u32 0, Value.int .u32 0, Value.int .u32 0, Value.int .u32 0, Value.int .u32 0, Value.int .u32 0, Value.int .u32 0, Value.int .u32 0, Value.int .u32 0, Value.int .u32 0, Value.int .u32 0, Value.int .u32 0, Value.int .u32 0, Value.int .u32 0, Value.int .u32 0, Value.int .u32 0, Value.int .u32 0, Value.int .u32 0, Value.int .u32 0, Value.int .u32 0, Value.int .u32 0, Value.int .u32 0, .slice none 0 0, .bool false, .int .i64 0, .slice none 0 0] 30)).cell? ⟨g, 1, none⟩ = some (.string S1) := (World.cell?_alloc_lt _ _ ⟨g, 1, none⟩ hg).trans h1
  have k2 : (W.alloc (.cells #[Value.int .u32 0, Value.int .u32 0, Value.int .u32 0, Value.int .u32 0, Value.int .u32 0, Value.int .u32 0, Value.int .u32 0, Value.int .u32 0, Value.int .u32 0, Value.int .u32 0, Value.int .u32 0, Value.int .u32 0, Value.int .u32 0, Value.int .u32 0, Value.int .u32 0, Value.int .u32 0, Value.int .u32 0, Value.int .u32 0, Value.int .u32 0, Value.int .u32 0, Value.int .u32 0, Value.int .u32 0, Value.int .u32 0, Value.int .u32 0, Value.int .u32 0, Value.int .u32 0, Value.int .u32 0, Value.int .u32 0, Value.int .u32 0, .slice none 0 0, .bool false, .int .i64 0, .slice none 0 0] 30)).cell? ⟨g, 2, none⟩ = some (.string S2) := (World.cell?_alloc_lt _ _ ⟨g, 2, none⟩ hg).trans h2
  have k3 : (W.alloc (.cells #[Value.int .u32 0, Value.int .u32 0, Value.int .u32 0, Value.int .u32 0, Value.int .u32 0, Value.int .u32 0, Value.int .u32 0, Value.int .u32 0, Value.int .u32 0, Value.int .u32 0, Value.int .u32 0, Value.int .u32 0, Value.int .u32 0, Value.int .u32 0, Value.int .u32 0, Value.int .u32 0, Value.int .u32 0, Value.int .u32 0, Value.int .u32 0, Value.int .u32 0, Value.int .u32 0, Value.int .u32 0, Value.int .u32 0, Value.int .u32 0, Value.int .u32 0, Value.int .u32 0, Value.int .u32 0, Value.int .u32 0, Value.int .u32 0, .slice none 0 0, .bool false, .int .i64 0, .slice none 0 0] 30)).cell? ⟨g, 3, none⟩ = some (.string S3) := (World.cell?_alloc_lt _ _ ⟨g, 3, none⟩ hg).trans h3
  have k4 : (W.alloc (.cells #[Value.int .u32 0, Value.int .u32 0, Value.int .u32 0, Value.int .u32 0, Value.int .u32 0, Value.int .u32 0, Value.int .u32 0, Value.int .u32 0, Value.int .u32 0, Value.int .u32 0, Value.int .u32 0, Value.int .u32 0, Value.int .u32 0, Value.int .u32 0, Value.int .u32 0, Value.int .u32 0, Value.int .u32 0, Value.int .u32 0, Value.int .u32 0, Value.int .u32 0, Value.int .u32 0, Value.int .u32 0, Value.int .u32 0, Value.int .u32 0, Value.int .u32 0, Value.int .u32 0, Value.int .u32 0, Value.int .u32 0, Value.int .u32 0, .slice none 0 0, .bool false, .int .i64 0, .slice none 0 0] 30)).cell? ⟨g, 4, none⟩ = some (.string S4) := (World.cell?_alloc_lt _ _ ⟨g, 4, none⟩ hg).trans h4
  obtain ⟨W0, hW0⟩ : ∃ W0, W.alloc (.cells #[Value.int .u32 0, Value.int .u32 0, Value.int .u32 0, Value.int .u32 0, Value.int .u32 0, Value.int .u32 0, Value.int .u32 0, Value.int .u32 0, Value.int .u32 0, Value.int .u32 0, Value.int .u32 0, Value.int .u32 0, Value.int .u32 0, Value.int .u32 0, Value.int .u32 0, Value.int .u32 0, Value.int .u32 0, Value.int .u32 0, Value.int .u32 0, Value.int .u32 0, Value.int .u32 0, Value.int .u32 0, Value.int .u32 0, Value.int .u32 0, Value.int .u32 0, Value.int .u32 0, Value.int .u32 0, Value.int .u32 0, Value.int .u32 0, .slice none 0 0, .bool false, .int .i64 0, .slice none 0 0] 30) = W0 := ⟨_, rfl⟩
  rw [hW0] at hF0 k1 k2 k3 k4 lt0
  have HW0 := Lib.hid hW0
  clear hW0 h1 h2 h3 h4 hg
  have z0 : Hid (W0.heap.size = W.heap.size + 1) := Lib.hid (by rw [← HW0.out]; simp)
  go_enter Tryd.func25, Tryd.ntmps25
  go_wp2_with fail
  simp only [HW0.out]
  have F0S : Hid (fS W g S3 S4 3 4 W0) := Lib.hid ⟨k3, k4, hF0.out, G.out, h9.out⟩
  have k12 : Hid (∀ w, Below W0.heap.size W0 w → w.cell? ⟨g, 1, none⟩ = some (.string S1) ∧ w.cell? ⟨g, 2, none⟩ = some (.string S2)) := Lib.hid (fun w hb => ⟨(hb.cell (p := ⟨g, 1, none⟩) lt0).trans k1, (hb.cell (p := ⟨g, 2, none⟩) lt0).trans k2⟩)
  clear k1 k2 HW0
  go_cut [3] (fun s3 wx => ∃ (x : Nat) (p : Option Addr) (c : Nat), s3 = .pointer (some ⟨x, 0, none⟩) ∧ Hid (FT W wx ∧ W.heap.size < x ∧ VBox wx x (fl (.slice p out.length c) b) ∧ Bytes wx p out ∧ (∀ k a, k < out.length → p = some a → a.block ≠ x ∧ W.heap.size < a.block) ∧ wx.cell? ⟨g, 1, none⟩ = some (.string S1) ∧ wx.cell? ⟨g, 2, none⟩ = some (.string S2)))
  case first =>
    go_region_held3 (fun w' => w'.cell? ⟨g, 3, none⟩ = some (.string S3) ∧ w'.cell? ⟨g, 4, none⟩ = some (.string S4) ∧ Hid (FT W w' ∧ g < W.heap.size ∧ 9 ≤ W.heap.size))
      (first
        | exact fS.later F0S.out (Below.refl _ _).drew
        | exact fS.later (W := W) (by assumption) hbc
        | exact fS.later (W := W) (by assumption) ((Below.refl _ _).alloc (Nat.le_refl _) _)
        | exact fS.row (W := W) (by assumption) (by have := z0.out; omega) _
        | exact fS.row (W := W) (by assumption) (by have := z0.out; have := hbc.size; (try simp at this); omega) _)
      (first
        | (go_at_call 41
           refine (U.out _).mono ?_
           rintro e w' ⟨⟨p, c, rfl, hby, hpb⟩, hbc⟩
           have hw' : Hid (fS W g S3 S4 3 4 w') := Lib.hid (fS.later (W := W) (by assumption) hbc)
           have hbh2 : BoxHead (w'.alloc (.cells #[Value.int .u32 0, Value.int .u32 0, Value.int .u32 0, Value.int .u32 0, Value.int .u32 0, Value.int .u32 0, Value.int .u32 0, Value.int .u32 0, Value.int .u32 0, Value.int .u32 0, Value.int .u32 0, Value.int .u32 0, Value.int .u32 0, Value.int .u32 0, Value.int .u32 0, Value.int .u32 0, Value.int .u32 0, Value.int .u32 0, Value.int .u32 0, Value.int .u32 0, Value.int .u32 0, Value.int .u32 0, Value.int .u32 0, Value.int .u32 0, Value.int .u32 0, Value.int .u32 0, Value.int .u32 0, Value.int .u32 0, Value.int .u32 0, .slice none 0 0, .bool false, .int .i64 0, .slice none 0 0] 30)) w'.heap.size := ⟨#[Value.int .u32 0, Value.int .u32 0, Value.int .u32 0, Value.int .u32 0, Value.int .u32 0, Value.int .u32 0, Value.int .u32 0, Value.int .u32 0, Value.int .u32 0, Value.int .u32 0, Value.int .u32 0, Value.int .u32 0, Value.int .u32 0, Value.int .u32 0, Value.int .u32 0, Value.int .u32 0, Value.int .u32 0, Value.int .u32 0, Value.int .u32 0, Value.int .u32 0, Value.int .u32 0, Value.int .u32 0, Value.int .u32 0, Value.int .u32 0, Value.int .u32 0, Value.int .u32 0, Value.int .u32 0, Value.int .u32 0, Value.int .u32 0, .slice none 0 0, .bool false, .int .i64 0, .slice none 0 0], World.alloc_heap_new w' _, rfl⟩
           (try have hbh : BoxHead w' W0.heap.size := ⟨#[Value.int .u32 0, Value.int .u32 0, Value.int .u32 0, Value.int .u32 0, Value.int .u32 0, Value.int .u32 0, Value.int .u32 0, Value.int .u32 0, Value.int .u32 0, Value.int .u32 0, Value.int .u32 0, Value.int .u32 0, Value.int .u32 0, Value.int .u32 0, Value.int .u32 0, Value.int .u32 0, Value.int .u32 0, Value.int .u32 0, Value.int .u32 0, Value.int .u32 0, Value.int .u32 0, Value.int .u32 0, Value.int .u32 0, Value.int .u32 0, Value.int .u32 0, Value.int .u32 0, Value.int .u32 0, Value.int .u32 0, Value.int .u32 0, .slice none 0 0, .bool false, .int .i64 0, .slice none 0 0], (hbc.block W0.heap.size (by simp)).trans (World.alloc_heap_new W0 _), rfl⟩)))
    all_goals
      have FX : FT W _ := fS.ft (by assumption)
      go_wp2_with fail
      go_meet
      first
        | exact ⟨W0.heap.size, p, c, rfl, Lib.hid ⟨FX, by have := z0.out; omega, VBox.of_head hbh _ rfl, hby.row (fun k a _ ha => by have := hpb a ha; simp at this; omega) _, fun k a _ ha => by have := hpb a ha; have := z0.out; simp at *; omega,
            (k12.out _ (Go.below_setRow ((first_low W0).trans (hbc.mono (by simp))) (Nat.le_refl _) _)).1, (k12.out _ (Go.below_setRow ((first_low W0).trans (hbc.mono (by simp))) (Nat.le_refl _) _)).2⟩⟩
        | exact ⟨w'.heap.size, p, c, rfl, Lib.hid ⟨FX, by have := z0.out; have := hbc.size; simp at this; omega, VBox.of_head hbh2 _ rfl, (hby.later ((Below.refl _ w').alloc (Nat.le_refl _) _)).row (fun k a hk ha => bytes_ne hby hk ha) _, fun k a hk ha => ⟨bytes_ne hby hk ha, by have := hpb a ha; have := z0.out; simp at *; omega⟩,
            (k12.out _ (Go.below_setRow (((Below.refl _ W0).drew.trans hbc).alloc hbc.size _) hbc.size _)).1, (k12.out _ (Go.below_setRow (((Below.refl _ W0).drew.trans hbc).alloc hbc.size _) hbc.size _)).2⟩⟩
  case rest =>
    obtain ⟨x, p, c, rfl, hF, hxW, hV, hby, hpb, c1, c2⟩ := hcut
    have hF1 := Lib.hid hF
    have HX := Lib.hid hxW
    have hR0 : Hid (RS x p out (fl (.slice p out.length c) b) wc) := Lib.hid ⟨hV, hby⟩
    have hgx : g < wc.heap.size := Nat.lt_trans G.out (Nat.lt_trans hxW hV.lt)
    have G1 : Hid (fS W g S1 S2 1 2 wc) := Lib.hid ⟨c1, c2, hF, G.out, h9.out⟩
    have hne1 : g ≠ x := by have := G.out; omega
    have m1 : min (n1 : Int) 1099511627777 = ((min n1 1099511627777 : Nat) : Int) := by omega
    have m2 : IntKind.i64.wrap ((min n1 1099511627777 : Nat) : Int) = ((min n1 1099511627777 : Nat) : Int) := by rw [IntKind.wrap_i64]; omega
    have m3 : IntKind.u32.wrap (n2 : Int) = ((n2 % 4294967296 : Nat) : Int) := by rw [IntKind.wrap_u32]; omega
    clear hF hV hby c1 c2
    go_wp2_with fail
    go_region_held3 (fun w' => w'.cell? ⟨g, 1, none⟩ = some (.string S1) ∧ w'.cell? ⟨g, 2, none⟩ = some (.string S2) ∧ Hid (FT W w' ∧ g < W.heap.size ∧ 9 ≤ W.heap.size))
      (first
        | assumption
        | exact fS.later G1.out (Below.refl _ _).drew
        | exact fS.later (W := W) (by assumption) hbc
        | exact fS.put (W := W) (by assumption) HX.out _ _)
      (first
        | (go_at_call_of 27 (Value.string S1)
           refine (R1.out _ (fS.ft (by assumption)).env).mono ?_
           rintro e w' ⟨rfl, hbc⟩
           have hR1 : Hid (RS x p out (fl (.slice p out.length c) b) w') := Lib.hid (RS.later hR0.out (below_drewBack hbc)))
        | (go_at_call_of 27 (Value.string S2)
           refine (R2.out _ (fS.ft (by assumption)).env).mono ?_
           rintro e w' ⟨rfl, hbc⟩
           have hR2 : Hid (RS x p out (fl (.slice p out.length c) b) w') := Lib.hid (RS.later hR1.out hbc)
           have x31 := hR2.out.box.cell 31 _ rfl
           have x16 := hR2.out.box.cell 16 _ rfl
           have f31 := hR2.out.box.free 31 (by omega)
           have f16 := hR2.out.box.free 16 (by omega)))
    all_goals
      have FX : FT W _ := fS.ft (by assumption)
      have FX1 := Lib.hid FX
      have V1 := (hR2.out.box.set rfl 31 (by omega) (.int .i64 ((min n1 1099511627777 : Nat) : Int))).set rfl 16 (by omega) (.int .u32 ((n2 : Int) % 4294967296))
      have Y1 := (hR2.out.by'.put (j := 31) (fun k a hk ha => (hpb k a hk ha).1) (.int .i64 ((min n1 1099511627777 : Nat) : Int))).put (j := 16) (fun k a hk ha => (hpb k a hk ha).1) (.int .u32 ((n2 : Int) % 4294967296))
      have hwf : V.wf := by
        rw [HVe.out]
        exact ⟨rfl, rfl, by unfold w32; dsimp only; omega, by dsimp only; omega, fun e he => (by cases he), fun z hz => by rw [List.eq_of_mem_replicate hz]; unfold w32; omega, fun z hz => by rw [List.eq_of_mem_replicate hz]; unfold w32; omega⟩
      have hVo : V.out = out := by rw [HVe.out]
      have hcs : Hid (((fl (.slice p out.length c) b).set 31 (.int .i64 ((min n1 1099511627777 : Nat) : Int))).set 16 (.int .u32 ((n2 : Int) % 4294967296)) = vcs V p c none 0) := Lib.hid (by rw [HVe.out, show ((n2 % 4294967296 : Nat) : Int) = (n2 : Int) % 4294967296 by omega]; rfl)
      rw [hcs.out] at V1
      have HV1 := Lib.hid V1
      have HY1 := Lib.hid Y1
      have hone := vcs_one V p c none 0
      have hlen := vcs_len hwf p c none 0
      have HVW := Lib.hid hwf
      have HP := Lib.hid hpb
      have HVC : Hid (∀ cs w, vcs V p c none 0 = cs → Bytes w p out → FirE W V (.returned (.agg cs.toArray)) w) := Lib.hid (fun cs w hc hw => ⟨HVW.out, p, c, by rw [hc], by rw [hVo]; exact hw, fun k a hk ha => Nat.le_of_lt (HP.out k a (by rw [hVo] at hk; exact hk) ha).2⟩)
      obtain ⟨cs, hce⟩ : ∃ cs, vcs V p c none 0 = cs := ⟨_, rfl⟩
      have HCE := Lib.hid hce
      rw [hce] at hone hlen HV1
      obtain ⟨wf, hwfe⟩ : ∃ wf, (w'.setCell ⟨x, 31, none⟩ (.int .i64 ((min n1 1099511627777 : Nat) : Int))).setCell ⟨x, 16, none⟩ (.int .u32 ((n2 : Int) % 4294967296)) = wf := ⟨_, rfl⟩
      rw [hwfe] at HV1 HY1 FX1
      simp only [hwfe]
      have hP := Lib.hid hpb
      have hi33 : (Tryd.prog.info? 30).map (·.size) = some cs.length := by rw [hlen]; exact size30
      have hi33a : (Tryd.prog.info? 30).map (·.size) = some cs.toArray.size := hi33
      have hall := all_oneCell_toArray hone
      have hthere : wf.there W.heap.size 0 cs.toArray.size := by have h0 := FX1.out.b2.there; rw [← hlen] at h0; exact h0
      clear hce hwfe V1 Y1 hcs hwf hVo FX hR1 hR2 x31 x16 f31 f16 hbc m1 m2 m3 hpb hone
      go_wp2_with (first
        | (refine wpList_load_mid rfl 30 (.tmp 3) rfl x 0 rfl cs _ HV1.out.range Tryd.underlying30 rfl hi33 ?_)
        | (refine wpList_store_mid rfl 30 (.tmp 2) (.tmp 27) rfl W.heap.size 0 cs.toArray rfl rfl hthere hi33a hall ?_))
      have R := VBox.all FX1.out.b2 cs hlen
      refine bodyPost_ret (v := .agg cs.toArray) (results_cell_mid rfl _ _ W.heap.size cs _ rfl R.range Tryd.underlying30 rfl hi33) rfl ?_
      exact ⟨HVC.out cs _ HCE.out (HY1.out.cells (fun k a hk ha => by have := (hP.out k a hk ha).2; omega) _ _), below_cells' (Nat.le_refl _) _ _ _ FX1.out.below⟩
end Go.Proofs.YtnfkimhhgflfjaaDoor.Rep
