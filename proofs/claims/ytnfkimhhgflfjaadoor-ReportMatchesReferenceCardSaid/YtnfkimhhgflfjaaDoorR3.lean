/- A virtual CPU as data; vcpu.Valid, walked. -/
import Derived.Test.YtnfkimhhgflfjaaDoorR2
namespace Go.Proofs.YtnfkimhhgflfjaaDoor.Rep
open Go Go.RowKit
set_option linter.unusedVariables false
set_option linter.unusedSimpArgs false
/-! ### A virtual CPU, as data -/
structure Ev where
  kind : Int
  pos : Int
  time : Int
  deriving DecidableEq
def Ev.wf (e : Ev) : Prop := (-9223372036854775808 ≤ e.kind ∧ e.kind ≤ 9223372036854775807) ∧ (-9223372036854775808 ≤ e.pos ∧ e.pos ≤ 9223372036854775807) ∧ 0 ≤ e.time ∧ e.time ≤ 18446744073709551615
def ecl (e : Ev) : List Value := [.int .i64 e.kind, .int .i64 e.pos, .int .u64 e.time]
structure Vp where
  regs : List Int
  pc : Int
  csr : List Int
  out : List UInt8
  halted : Bool
  done : Int
  log : List Ev
  deriving DecidableEq
def w32 (x : Int) : Prop := 0 ≤ x ∧ x ≤ 4294967295
structure Vp.wf (v : Vp) : Prop where
  regs : v.regs.length = 16
  csr : v.csr.length = 12
  pc : w32 v.pc
  done : -9223372036854775808 ≤ v.done ∧ v.done ≤ 9223372036854775807
  log : ∀ e ∈ v.log, e.wf
  r32 : ∀ x ∈ v.regs, w32 x
  c32 : ∀ x ∈ v.csr, w32 x
/-- The cells of a virtual CPU: its slices begin at p and q. -/
def vcs (v : Vp) (p : Option Addr) (c : Nat) (q : Option Addr) (d : Nat) : List Value :=
  v.regs.map (Value.int .u32) ++ (.int .u32 v.pc :: (v.csr.map (Value.int .u32) ++ [.slice p v.out.length c, .bool v.halted, .int .i64 v.done, .slice q v.log.length d]))
theorem vcs_len {v : Vp} (h : v.wf) (p : Option Addr) (c : Nat) (q : Option Addr) (d : Nat) : (vcs v p c q d).length = 33 := by
  simp [vcs, h.regs, h.csr]
theorem vcs_one (v : Vp) (p : Option Addr) (c : Nat) (q : Option Addr) (d : Nat) : ∀ u ∈ vcs v p c q d, u.oneCell' = true := by
  intro u hu
  simp only [vcs, List.mem_append, List.mem_map, List.mem_cons, List.not_mem_nil, or_false] at hu
  rcases hu with ⟨x, _, rfl⟩ | rfl | ⟨x, _, rfl⟩ | rfl | rfl | rfl | rfl <;> rfl
theorem vcs_reg {v : Vp} (h : v.wf) (p : Option Addr) (c : Nat) (q : Option Addr) (d : Nat) (k : Nat) (hk : k < 16) : (vcs v p c q d)[k]? = some (.int .u32 (v.regs.getD k 0)) := by
  unfold vcs
  rw [List.getElem?_append_left (by rw [List.length_map, h.regs]; exact hk), List.getElem?_map, List.getElem?_eq_getElem (by rw [h.regs]; exact hk), List.getD, List.getElem?_eq_getElem (by rw [h.regs]; exact hk)]
  rfl
theorem vcs_tail {v : Vp} (h : v.wf) (p : Option Addr) (c : Nat) (q : Option Addr) (d : Nat) (k : Nat) : (vcs v p c q d)[16 + k]? = (Value.int .u32 v.pc :: (v.csr.map (Value.int .u32) ++ [.slice p v.out.length c, .bool v.halted, .int .i64 v.done, .slice q v.log.length d]))[k]? := by
  unfold vcs
  rw [List.getElem?_append_right (by rw [List.length_map, h.regs]; omega), List.length_map, h.regs, show 16 + k - 16 = k by omega]
theorem vcs_pc {v : Vp} (h : v.wf) (p : Option Addr) (c : Nat) (q : Option Addr) (d : Nat) : (vcs v p c q d)[16]? = some (.int .u32 v.pc) := vcs_tail h p c q d 0
theorem vcs_csr {v : Vp} (h : v.wf) (p : Option Addr) (c : Nat) (q : Option Addr) (d : Nat) (k : Nat) (hk : k < 12) : (vcs v p c q d)[17 + k]? = some (.int .u32 (v.csr.getD k 0)) := by
  rw [show 17 + k = 16 + (k + 1) by omega, vcs_tail h, List.getElem?_cons_succ, List.getElem?_append_left (by rw [List.length_map, h.csr]; exact hk), List.getElem?_map, List.getElem?_eq_getElem (by rw [h.csr]; exact hk), List.getD, List.getElem?_eq_getElem (by rw [h.csr]; exact hk)]
  rfl
theorem vcs_end {v : Vp} (h : v.wf) (p : Option Addr) (c : Nat) (q : Option Addr) (d : Nat) (k : Nat) : (vcs v p c q d)[29 + k]? = [Value.slice p v.out.length c, .bool v.halted, .int .i64 v.done, .slice q v.log.length d][k]? := by
  rw [show 29 + k = 16 + (k + 12 + 1) by omega, vcs_tail h, List.getElem?_cons_succ, List.getElem?_append_right (by rw [List.length_map, h.csr]; omega), List.length_map, h.csr, show k + 12 - 12 = k by omega]
/-- A log lies there. -/
def Evs (W : World) (q : Option Addr) (l : List Ev) : Prop := ∀ (k : Nat) (e : Ev), l[k]? = some e → ∃ a, q = some a ∧ a.block < W.heap.size ∧ ∀ j u, (ecl e)[j]? = some u → W.cell? ((a.add (k * 3)).add j) = some u
theorem add_block (a : Addr) (n : Nat) : (a.add n).block = a.block := by unfold Addr.add; split <;> rfl
theorem Evs.later {W W' : World} {q : Option Addr} {l : List Ev} (h : Evs W q l) (hb : Below W.heap.size W W') : Evs W' q l := fun k e hk => by
  obtain ⟨a, h2, h3, h4⟩ := h k e hk
  exact ⟨a, h2, Nat.lt_of_lt_of_le h3 hb.size, fun j u hj => (hb.cell (p := (a.add (k * 3)).add j) (by rw [add_block, add_block]; exact h3)).trans (h4 j u hj)⟩
/-- The cells cs are the virtual CPU v. -/
structure VC (W : World) (cs : List Value) (v : Vp) : Prop where
  wf : v.wf
  cells : ∃ p c q d, cs = vcs v p c q d ∧ Bytes W p v.out ∧ Evs W q v.log
theorem VC.later {W W' : World} {cs : List Value} {v : Vp} (h : VC W cs v) (hb : Below W.heap.size W W') : VC W' cs v := by
  obtain ⟨p, c, q, d, h1, h2, h3⟩ := h.cells
  exact ⟨h.wf, p, c, q, d, h1, h2.later hb, h3.later hb⟩
/-! ### A struct out of a slice -/
theorem run_loadVar_at (w : World) (p : Addr) (ty : TypeId) (cs : List Value) (d : TypeDesc) (hc : ∀ j u, cs[j]? = some u → w.cell? (p.add j) = some u)
    (hu : Tryd.prog.underlying ty = some d) (hd : d.isRow = true) (hi : (Tryd.prog.info? ty).map (·.size) = some cs.length) :
    (loadVar ty p).run Tryd.prog w = .ok (.agg cs.toArray) w := by
  have hl : (loadCells p cs.length).run Tryd.prog w = .ok cs.toArray w := run_loadCells_list (P := Tryd.prog) w p cs hc
  cases hq : Tryd.prog.info? ty with
  | none => simp [hq] at hi
  | some i =>
    have hs : i.size = cs.length := by simpa [hq] using hi
    have hagg : (isAgg ty).run Tryd.prog w = .ok true w := by
      unfold isAgg
      rw [Sem.run_bind, run_underlying hu w]
      cases d <;> simp_all
    simp [loadVar, Sem.run_bind, hagg, sizeOf, typeInfo, hq, hs, hl]
theorem wpList_load_at {ops : Array Oper} {rest : List Oper} {op : Oper} {a : Act} {w : World} {Q : Exit → Act → World → Prop} (hgd : op.guard = none) (ty : TypeId) (x : Operand) (ho : op.op = .load ty x)
    (p : Addr) (hx : a.eval x = .pointer (some p)) (cs : List Value) (d : TypeDesc) (hc : ∀ j u, cs[j]? = some u → w.cell? (p.add j) = some u)
    (hu : Tryd.prog.underlying ty = some d) (hd : d.isRow = true) (hi : (Tryd.prog.info? ty).map (·.size) = some cs.length)
    (h : wpList Tryd.prog ops Q rest (a.put op.dst (.agg cs.toArray)) w) : wpList Tryd.prog ops Q (op :: rest) a w :=
  wpList_plain hgd fun _ hK => by
    unfold Oper.wp execOp
    simp only [ho, hx, Instr.loadAt, Instr.sureAddr, Sem.run_bind, Sem.run_pure, Result.andThen_ok, run_loadVar_at w p ty cs d hc hu hd hi]
    exact hK _ _ h
theorem size49 : (Tryd.prog.info? 49).map (·.size) = some 3 := by kernel_rfl
theorem size30 : (Tryd.prog.info? 30).map (·.size) = some 33 := by kernel_rfl
/-! ### vcpu.Valid -/
def vldL (done : Int) : Int → List Ev → Bool
  | _, [] => true
  | last, e :: r => if e.kind < 1 ∨ 3 < e.kind ∨ e.pos ≤ last ∨ done ≤ e.pos then false else vldL done e.pos r
def hdOk (v : Vp) : Bool := decide (v.regs.getD 0 0 = 0 ∧ v.csr.getD 7 0 = 0 ∧ v.csr.getD 8 0 = 0 ∧ 0 ≤ v.done)
def vOk (v : Vp) : Bool := hdOk v && vldL v.done (-1) v.log
set_option maxRecDepth 100000 in
set_option maxHeartbeats 4000000 in
theorem valid_head (cs : List Value) (r0 c7 c8 dn : Int) (W : World) (g0 : cs[0]? = some (.int .u32 r0)) (g24 : cs[24]? = some (.int .u32 c7)) (g25 : cs[25]? = some (.int .u32 c8)) (g31 : cs[31]? = some (.int .i64 dn)) (hno : ¬ (r0 = 0 ∧ c7 = 0 ∧ c8 = 0 ∧ 0 ≤ dn)) :
    Calls Tryd.prog 16 #[.agg cs.toArray] W fun e w' => e = .returned (.bool false) ∧ Below W.heap.size W w' := by
  have hcase : r0 ≠ 0 ∨ (r0 = 0 ∧ c7 ≠ 0) ∨ (r0 = 0 ∧ c7 = 0 ∧ c8 ≠ 0) ∨ (r0 = 0 ∧ c7 = 0 ∧ c8 = 0 ∧ dn < 0) := by omega
  clear hno
  rcases hcase with h | ⟨rfl, h⟩ | ⟨rfl, rfl, h⟩ | ⟨rfl, rfl, rfl, h⟩
  all_goals
    go_enter Tryd.func16, Tryd.ntmps16
    go_wp2
    go_ret
    exact ⟨rfl, (Below.refl _ W).alloc (Nat.le_refl _) _⟩
theorem vldL_drop {done : Int} {l : List Ev} {k : Nat} {e : Ev} (h : l[k]? = some e) (last : Int) : vldL done last (l.drop k) = (if e.kind < 1 ∨ 3 < e.kind ∨ e.pos ≤ last ∨ done ≤ e.pos then false else vldL done e.pos (l.drop (k + 1))) := by
  have hk : k < l.length := (List.getElem?_eq_some_iff.1 h).1
  have hc : l[k] = e := (List.getElem?_eq_some_iff.1 h).2
  rw [List.drop_eq_getElem_cons hk, hc, vldL]
theorem ecl_all (e : Ev) : (ecl e).toArray.all (·.oneCell') = true := Array.all_eq_true_iff_forall_mem.2 (fun v hv => by
  simp only [ecl, List.mem_toArray, List.mem_cons, List.not_mem_nil, or_false] at hv
  rcases hv with rfl | rfl | rfl <;> rfl)
set_option maxRecDepth 100000 in
set_option maxHeartbeats 4000000 in
theorem valid_log (cs : List Value) (dn : Int) (l : List Ev) (q : Option Addr) (d : Nat) (ok : Bool) (W : World) (g0 : cs[0]? = some (.int .u32 0)) (g24 : cs[24]? = some (.int .u32 0)) (g25 : cs[25]? = some (.int .u32 0)) (g31 : cs[31]? = some (.int .i64 dn)) (g32 : cs[32]? = some (.slice q l.length d))
    (hd : 0 ≤ dn) (hl : l.length ≤ 1000000) (hq : Evs W q l) (hwf : ∀ e ∈ l, e.wf) (hok : vldL dn (-1) l = ok) :
    Calls Tryd.prog 16 #[.agg cs.toArray] W fun e w' => e = .returned (.bool ok) ∧ Below W.heap.size W w' := by
  have Q := Lib.hid hq
  have HW := Lib.hid hwf
  have HO := Lib.hid hok
  clear hq hwf hok
  have k0 : ∀ j u, cs[j]? = some u → (W.alloc (.cells cs.toArray 30)).cell? ⟨W.heap.size, j, none⟩ = some u := fun j u h => by rw [World.cell?_alloc_new]; simpa using h
  have g0 := k0 0 _ g0
  have g24 := k0 24 _ g24
  have g25 := k0 25 _ g25
  have g31 := k0 31 _ g31
  have g32 := k0 32 _ g32
  clear k0
  have hdn : ¬ dn < 0 := by omega
  have B0 := Lib.hid ((Below.refl W.heap.size W).alloc (Nat.le_refl _) (.cells cs.toArray 30))
  obtain ⟨W0, hW0⟩ : ∃ W0, W.alloc (.cells cs.toArray 30) = W0 := ⟨_, rfl⟩
  rw [hW0] at g0 g24 g25 g31 g32 B0
  have hz0 : Hid (W.heap.size < W0.heap.size) := Lib.hid (by rw [← hW0]; simp)
  have HW0 := Lib.hid hW0
  clear hW0
  go_enter Tryd.func16, Tryd.ntmps16
  go_wp2_with fail
  simp only [HW0.out]
  clear g0 g24 g25 HW0
  go_loopw [3, 33] (fun vl vi wr => ∃ (k : Nat) (last : Int), k ≤ l.length ∧ vi = .int .i64 (k : Int) ∧ vl = .int .i64 last ∧ Hid (vldL dn last (l.drop k) = ok) ∧ Hid (Below W0.heap.size W0 wr)) (fun _ vi _ => l.length - (intOf vi).toNat)
  case atStart => exact ⟨0, -1, by omega, rfl, rfl, by rw [List.drop_zero]; exact HO, Lib.hid (Below.refl _ _)⟩
  case round =>
    obtain ⟨k, last, hk, rfl, rfl, hV, hB⟩ := hrel
    have h31 := (hB.out.cell (p := ⟨W.heap.size, 31, none⟩) hz0.out).trans g31
    by_cases hkn : k < l.length
    · obtain ⟨e, he⟩ : ∃ e, l[k]? = some e := ⟨l[k], List.getElem?_eq_getElem hkn⟩
      obtain ⟨a, rfl, hal, hac⟩ := Q.out k e he
      have hew := HW.out e (List.mem_of_getElem? he)
      have hV2 : Hid ((if e.kind < 1 ∨ 3 < e.kind ∨ e.pos ≤ last ∨ dn ≤ e.pos then false else vldL dn e.pos (l.drop (k + 1))) = ok) := Lib.hid ((vldL_drop he last).symm.trans hV.out)
      have hR : ∀ j u, (ecl e)[j]? = some u → wr.cell? ((a.add (k * 3)).add j) = some u := fun j u hj => by
        rw [← hac j u hj]
        exact (hB.out.cell (p := (a.add (k * 3)).add j) (by rw [add_block, add_block]; exact Nat.lt_of_lt_of_le hal B0.out.size)).trans (B0.out.cell (p := (a.add (k * 3)).add j) (by rw [add_block, add_block]; exact hal))
      clear hac he hV
      obtain ⟨kd, ps, tm⟩ := e
      have hsz : (Tryd.prog.info? 49).map (·.size) = some (ecl ⟨kd, ps, tm⟩).length := size49
      have hcase : kd < 1 ∨ (1 ≤ kd ∧ 3 < kd) ∨ ((1 ≤ kd ∧ kd ≤ 3) ∧ ps ≤ last) ∨ ((1 ≤ kd ∧ kd ≤ 3) ∧ last < ps ∧ dn ≤ ps) ∨ ((1 ≤ kd ∧ kd ≤ 3) ∧ last < ps ∧ ps < dn) := by omega
      have q1 : (k : Int) < (l.length : Int) := by omega
      have q2 : (0 : Int) ≤ (k : Int) := by omega
      have hx : W.heap.size < wr.heap.size := Nat.lt_of_lt_of_le hz0.out hB.out.size
      have B1 : Hid (Below W.heap.size W (wr.alloc (.cells (ecl ⟨kd, ps, tm⟩).toArray 49))) := Lib.hid ((B0.out.trans (hB.out.mono B0.out.size)).alloc (by omega) _)
      have B2 : Hid (Below W0.heap.size W0 (wr.alloc (.cells (ecl ⟨kd, ps, tm⟩).toArray 49))) := Lib.hid (hB.out.alloc hB.out.size _)
      dsimp only at hV2
      have d31 : ∀ o, (wr.alloc o).cell? ⟨W.heap.size, 31, none⟩ = some (.int .i64 dn) := fun o => (World.cell?_alloc_lt _ _ ⟨W.heap.size, 31, none⟩ hx).trans h31
      rcases hcase with h | ⟨h1, h⟩ | ⟨⟨h1, h2⟩, h⟩ | ⟨⟨h1, h2⟩, h3, h⟩ | ⟨⟨h1, h2⟩, h3, h⟩
      case inr.inr.inr.inr =>
        have hV3 : Hid (vldL dn ps (l.drop (k + 1)) = ok) := Lib.hid (by have := hV2.out; rwa [if_neg (by omega)] at this)
        clear hV2
        go_wp2_with (first
          | (refine wpList_load_at rfl 49 (.tmp 35) rfl (a.add (k * 3)) rfl (ecl ⟨kd, ps, tm⟩) _ hR Tryd.underlying49 rfl hsz ?_)
          | (refine wpList_store_row rfl 49 (.tmp 5) (.tmp 36) rfl wr.heap.size (ecl ⟨kd, ps, tm⟩).toArray rfl rfl 49 _ (World.alloc_heap_new _ _) size49 rfl (ecl_all _) ?_
             simp only [World.setRow_alloc_new, ecl]))
        go_roundw
        case rel => exact ⟨k + 1, ps, by omega, by go_num, rfl, hV3, B2⟩
        case measure => simp [intOf]; omega
      all_goals
        have hV3 : ok = false := by have := hV2.out; rw [if_pos (by omega)] at this; exact this.symm
        subst hV3
        clear hV2
        go_wp2_with (first
          | (refine wpList_load_at rfl 49 (.tmp 35) rfl (a.add (k * 3)) rfl (ecl ⟨kd, ps, tm⟩) _ hR Tryd.underlying49 rfl hsz ?_)
          | (refine wpList_store_row rfl 49 (.tmp 5) (.tmp 36) rfl wr.heap.size (ecl ⟨kd, ps, tm⟩).toArray rfl rfl 49 _ (World.alloc_heap_new _ _) size49 rfl (ecl_all _) ?_
             simp only [World.setRow_alloc_new, ecl]))
        go_ret
        exact ⟨rfl, B1.out⟩
    · obtain rfl : k = l.length := by omega
      have hV' := hV.out
      rw [List.drop_eq_nil_of_le (Nat.le_refl _), vldL] at hV'
      subst hV'
      clear hV
      go_wp2
      go_ret
      exact ⟨rfl, B0.out.trans (hB.out.mono B0.out.size)⟩
/-- vcpu.Valid. -/
theorem valid_any (cs : List Value) (v : Vp) (W : World) (h : VC W cs v) (hl : v.log.length ≤ 1000000) :
    Calls Tryd.prog 16 #[.agg cs.toArray] W fun e w' => e = .returned (.bool (vOk v)) ∧ Below W.heap.size W w' := by
  obtain ⟨p, c, q, d, rfl, hp, hq⟩ := h.cells
  have hw := h.wf
  have g0 := vcs_reg hw p c q d 0 (by omega)
  have g24 := vcs_csr hw p c q d 7 (by omega)
  have g25 := vcs_csr hw p c q d 8 (by omega)
  have g31 : (vcs v p c q d)[31]? = some (.int .i64 v.done) := vcs_end hw p c q d 2
  have g32 : (vcs v p c q d)[32]? = some (.slice q v.log.length d) := vcs_end hw p c q d 3
  unfold vOk hdOk
  by_cases hh : v.regs.getD 0 0 = 0 ∧ v.csr.getD 7 0 = 0 ∧ v.csr.getD 8 0 = 0 ∧ 0 ≤ v.done
  · rw [decide_eq_true hh, Bool.true_and]
    obtain ⟨h1, h2, h3, h4⟩ := hh
    rw [h1] at g0
    rw [h2] at g24
    rw [h3] at g25
    exact valid_log _ v.done v.log q d _ W g0 g24 g25 g31 g32 h4 hl hq hw.log rfl
  · rw [decide_eq_false hh, Bool.false_and]
    exact valid_head _ _ _ _ _ W g0 g24 g25 g31 hh
end Go.Proofs.YtnfkimhhgflfjaaDoor.Rep
