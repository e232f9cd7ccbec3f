/- gaolerref16.Same, walked. -/
import Derived.Test.YtnfkimhhgflfjaaDoorR17
import Derived.DeepKeys
namespace Go.Proofs.YtnfkimhhgflfjaaDoor.Rep
open Go Go.RowKit Go.Shelf
set_option linter.unusedVariables false
set_option linter.unusedSimpArgs false
/-! ### gaolerref16.Same -/
theorem pl22 : Tryd.prog.plainKey 22 = true := by kernel_rfl
theorem co22 : Tryd.prog.cellsOf 22 = 1 := by kernel_rfl
theorem co23 : Tryd.prog.cellsOf 23 = 16 := by kernel_rfl
theorem co24 : Tryd.prog.cellsOf 24 = 12 := by kernel_rfl
theorem eqItems_u32 (d : Nat) (w : World) (xs ys : Array Value) (f g : Nat → Int) : ∀ is : List Nat, (∀ i ∈ is, xs[i]? = some (.int .u32 (f i)) ∧ ys[i]? = some (.int .u32 (g i))) → (Op.eqItems (d + 1) 22 1 xs ys is).run Tryd.prog w = .ok (is.all fun i => f i == g i) w
  | [], _ => by simp [Op.eqItems]
  | i :: is, h => by
    obtain ⟨h1, h2⟩ := h i List.mem_cons_self
    have ih := eqItems_u32 d w xs ys f g is (fun j hj => h j (List.mem_cons_of_mem _ hj))
    have p1 := run_part_plain (P := Tryd.prog) (w := w) pl22 h1
    have p2 := run_part_plain (P := Tryd.prog) (w := w) pl22 h2
    have p3 := run_equalIn_int (P := Tryd.prog) w d 22 .u32 .u32 (f i) (g i) Tryd.underlying22
    simp only [Op.eqItems, Sem.run_bind, Nat.mul_one, p1, p2, p3, Result.andThen_ok, List.all_cons]
    cases hb : (f i == g i)
    · simp
    · simpa using ih
theorem all_same (l m : List Int) (n : Nat) (hl : l.length = n) (hm : m.length = n) : ((List.range n).all fun i => l.getD i 0 == m.getD i 0) = decide (l = m) := by
  by_cases h : l = m
  · subst h
    rw [decide_eq_true rfl, List.all_eq_true]
    intro i _
    exact beq_self_eq_true _
  · rw [decide_eq_false h]
    cases ha : (List.range n).all fun i => l.getD i 0 == m.getD i 0 with
    | false => rfl
    | true =>
      refine absurd (List.ext_getElem (by omega) fun i h1 h2 => ?_) h
      have := List.all_eq_true.1 ha i (List.mem_range.2 (by omega))
      have := beq_iff_eq.1 this
      rw [List.getD, List.getD, List.getElem?_eq_getElem h1, List.getElem?_eq_getElem h2] at this
      exact this
theorem eqArr (d : Nat) (w : World) (t : TypeId) (l m : List Int) (n : Nat) (hl : l.length = n) (hm : m.length = n) (hu : Tryd.prog.underlying t = some (.array n 22)) :
    (Op.equalIn (d + 2) t (.agg (l.map (Value.int .u32)).toArray) (.agg (m.map (Value.int .u32)).toArray)).run Tryd.prog w = .ok (decide (l = m)) w := by
  obtain ⟨i, hi⟩ := info_of_underlying Tryd.underlying22
  rw [run_equalIn_array (P := Tryd.prog) (w := w) (d + 1) _ _ hu hi, co22, ← all_same l m n hl hm]
  refine eqItems_u32 d w _ _ (fun i => l.getD i 0) (fun i => m.getD i 0) _ fun i hi => ?_
  have := List.mem_range.1 hi
  have e : ∀ z : List Int, i < z.length → (z.map (Value.int .u32)).toArray[i]? = some (Value.int .u32 (z.getD i 0)) := fun z hz => by
    rw [List.getElem?_toArray, List.getElem?_map, List.getD, List.getElem?_eq_getElem hz]
    rfl
  exact ⟨e l (by omega), e m (by omega)⟩
def coreC (v : Vp) : List Value := v.regs.map (Value.int .u32) ++ (.int .u32 v.pc :: v.csr.map (Value.int .u32))
theorem coreC_len {v : Vp} (h : v.wf) : (coreC v).length = 29 := by simp [coreC, h.regs, h.csr]
theorem coreC_get {v : Vp} (h : v.wf) (p : Option Addr) (c : Nat) (q : Option Addr) (d : Nat) (j : Nat) (u : Value) (hj : (coreC v)[j]? = some u) : (vcs v p c q d)[j]? = some u := by
  have e : vcs v p c q d = coreC v ++ [.slice p v.out.length c, .bool v.halted, .int .i64 v.done, .slice q v.log.length d] := by simp [vcs, coreC]
  rw [e, List.getElem?_append_left (List.getElem?_eq_some_iff.1 hj).1]
  exact hj
theorem part_row (w : World) (t e : TypeId) (n : Nat) (xs : Array Value) (off : Nat) (hu : Tryd.prog.underlying t = some (.array n e)) : (part t xs off).run Tryd.prog w = .ok (.agg (xs.extract off (off + Tryd.prog.cellsOf t))) w := by
  obtain ⟨i, hi⟩ := info_of_underlying hu
  simp [part, isAgg, run_underlying hu, run_sizeOf w hi]
theorem core_regs {v : Vp} (h : v.wf) : (coreC v).toArray.extract 0 (0 + 16) = (v.regs.map (Value.int .u32)).toArray := by
  apply Array.ext'
  rw [Array.toList_extract]
  simp [coreC, List.extract, h.regs]
theorem core_csr {v : Vp} (h : v.wf) : (coreC v).toArray.extract 17 (17 + 12) = (v.csr.map (Value.int .u32)).toArray := by
  apply Array.ext'
  rw [Array.toList_extract]
  have : (coreC v) = (v.regs.map (Value.int .u32) ++ [.int .u32 v.pc]) ++ v.csr.map (Value.int .u32) := by simp [coreC]
  simp only [List.extract, this]
  rw [List.drop_left' (by simp [h.regs])]
  rw [show 17 + 12 - 17 = 12 from rfl]
  exact List.take_of_length_le (by rw [List.length_map, h.csr]; exact Nat.le_refl _)
theorem core_pc {v : Vp} (h : v.wf) : (coreC v).toArray[16]? = some (.int .u32 v.pc) := by
  rw [List.getElem?_toArray, coreC, List.getElem?_append_right (by rw [List.length_map, h.regs]; omega), List.length_map, h.regs]
  rfl
/-- '==' of two cores. -/
def coreB (u v : Vp) : Bool := decide (u.regs = v.regs) && (decide (u.pc = v.pc) && decide (u.csr = v.csr))
theorem eqCore {u v : Vp} (hu : u.wf) (hv : v.wf) (d : Nat) (w : World) : (Op.equalIn (d + 3) 26 (.agg (coreC u).toArray) (.agg (coreC v).toArray)).run Tryd.prog w = .ok (coreB u v) w := by
  unfold coreB
  refine eqA_of Tryd.underlying26 (by kernel_rfl) ?_
  have e0 : ((u.pc == v.pc) : Bool) = decide (u.pc = v.pc) := rfl
  refine eqf_cons (by rfl) ((part_row w 23 22 16 _ 0 Tryd.underlying23).trans (by rw [co23, core_regs hu])) ((part_row w 23 22 16 _ 0 Tryd.underlying23).trans (by rw [co23, core_regs hv])) (eqArr d w 23 u.regs v.regs 16 hu.regs hv.regs Tryd.underlying23) ?_
  refine eqf_cons (by rfl) (run_part_plain (P := Tryd.prog) (w := w) pl22 (core_pc hu)) (run_part_plain (P := Tryd.prog) (w := w) pl22 (core_pc hv)) (run_equalIn_int (P := Tryd.prog) w (d + 1) 22 .u32 .u32 u.pc v.pc Tryd.underlying22) ?_
  exact eqf_last (by rfl) ((part_row w 24 22 12 _ 17 Tryd.underlying24).trans (by rw [co24, core_csr hu])) ((part_row w 24 22 12 _ 17 Tryd.underlying24).trans (by rw [co24, core_csr hv])) (eqArr d w 24 u.csr v.csr 12 hu.csr hv.csr Tryd.underlying24)
theorem vp_eq (u v : Vp) : decide (u = v) = (coreB u v && (u.halted == v.halted) && (u.done == v.done) && decide (u.out = v.out) && decide (u.log = v.log)) := by
  obtain ⟨a, b, c, d, e, f, g⟩ := u
  obtain ⟨a', b', c', d', e', f', g'⟩ := v
  unfold coreB
  rw [Bool.eq_iff_iff]
  simp
  constructor
  · rintro ⟨rfl, rfl, rfl, rfl, rfl, rfl, rfl⟩
    simp
  · rintro ⟨⟨⟨⟨⟨rfl, rfl, rfl⟩, rfl⟩, rfl⟩, rfl⟩, rfl⟩
    simp
set_option maxRecDepth 100000 in
set_option maxHeartbeats 8000000 in
theorem same_any (cs ds : List Value) (u v : Vp) (W : World) (hu : VC W cs u) (hv : VC W ds v) (ho : u.out.length ≤ 1000000) (hl : u.log.length ≤ 1000000) :
    Calls Tryd.prog 12 #[.agg cs.toArray, .agg ds.toArray] W fun e w' => e = .returned (.bool (decide (u = v))) ∧ Below W.heap.size W w' := by
  obtain ⟨p, c, q, d, hcs, hb, he⟩ := hu.cells
  obtain ⟨p', c', q', d', hds, hb', he'⟩ := hv.cells
  have wu := hu.wf
  have wv := hv.wf
  obtain ⟨W0, hW0⟩ : ∃ W0, W.alloc (.cells cs.toArray 30) = W0 := ⟨_, rfl⟩
  obtain ⟨W1, hW1⟩ : ∃ W1, W0.alloc (.cells ds.toArray 30) = W1 := ⟨_, rfl⟩
  have z0 : W0.heap.size = W.heap.size + 1 := by rw [← hW0]; simp
  have b0 : Below W.heap.size W W0 := by rw [← hW0]; exact (Below.refl W.heap.size W).alloc (Nat.le_refl _) _
  have b1 : Below W0.heap.size W0 W1 := by rw [← hW1]; exact (Below.refl W0.heap.size W0).alloc (Nat.le_refl _) _
  have kA : ∀ j x, cs[j]? = some x → W1.cell? ⟨W.heap.size, j, none⟩ = some x := fun j x h => by
    rw [b1.cell (p := ⟨W.heap.size, j, none⟩) (by show W.heap.size < W0.heap.size; omega), ← hW0, World.cell?_alloc_new]
    simpa using h
  have kB : ∀ j x, ds[j]? = some x → W1.cell? ⟨W.heap.size + 1, j, none⟩ = some x := fun j x h => by
    rw [← hW1, ← z0, World.cell?_alloc_new]
    simpa using h
  have B1 : Hid (Below W.heap.size W W1) := Lib.hid (b0.trans (b1.mono b0.size))
  have rA : Hid (W1.rangeAt W.heap.size 0 (coreC u)) := Lib.hid (fun j x hj => by rw [Nat.zero_add]; exact kA j x (by rw [hcs]; exact coreC_get wu _ _ _ _ j x hj))
  have rB : Hid (W1.rangeAt (W.heap.size + 1) 0 (coreC v)) := Lib.hid (fun j x hj => by rw [Nat.zero_add]; exact kB j x (by rw [hds]; exact coreC_get wv _ _ _ _ j x hj))
  have a29 := kA 29 (.slice p u.out.length c) (by rw [hcs]; exact vcs_end wu p c q d 0)
  have a30 := kA 30 (.bool u.halted) (by rw [hcs]; exact vcs_end wu p c q d 1)
  have a31 := kA 31 (.int .i64 u.done) (by rw [hcs]; exact vcs_end wu p c q d 2)
  have a32 := kA 32 (.slice q u.log.length d) (by rw [hcs]; exact vcs_end wu p c q d 3)
  have e29 := kB 29 (.slice p' v.out.length c') (by rw [hds]; exact vcs_end wv p' c' q' d' 0)
  have e30 := kB 30 (.bool v.halted) (by rw [hds]; exact vcs_end wv p' c' q' d' 1)
  have e31 := kB 31 (.int .i64 v.done) (by rw [hds]; exact vcs_end wv p' c' q' d' 2)
  have e32 := kB 32 (.slice q' v.log.length d') (by rw [hds]; exact vcs_end wv p' c' q' d' 3)
  have S5 := Lib.hid (same5_any u.out v.out p p' c c' W1 ho (hb.later B1.out) (hb'.later B1.out))
  have EV : Hid (∀ w', Below W1.heap.size W1 w' → Calls Tryd.prog 32 #[.slice q u.log.length d, .slice q' v.log.length d'] w' fun e w2 => e = .returned (.bool (decide (u.log = v.log))) ∧ Below w'.heap.size w' w2) :=
    Lib.hid (fun w' h => events_any u.log v.log q q' d d' w' hl ((he.later B1.out).later h) ((he'.later B1.out).later h))
  have EC := Lib.hid (eqCore wu wv)
  have sA : Hid ((Tryd.prog.info? 26).map (·.size) = some (coreC u).length) := Lib.hid (by rw [coreC_len wu]; kernel_rfl)
  have sB : Hid ((Tryd.prog.info? 26).map (·.size) = some (coreC v).length) := Lib.hid (by rw [coreC_len wv]; kernel_rfl)
  obtain ⟨r, hr⟩ : ∃ r, decide (u = v) = r := ⟨_, rfl⟩
  have HR := hr
  rw [vp_eq] at HR
  rw [hr]
  obtain ⟨x1, h1⟩ : ∃ x, coreB u v = x := ⟨_, rfl⟩
  obtain ⟨x2, h2⟩ : ∃ x, (u.halted == v.halted) = x := ⟨_, rfl⟩
  obtain ⟨x3, h3⟩ : ∃ x, (u.done == v.done) = x := ⟨_, rfl⟩
  obtain ⟨x4, h4⟩ : ∃ x, decide (u.out = v.out) = x := ⟨_, rfl⟩
  obtain ⟨x5, h5⟩ : ∃ x, decide (u.log = v.log) = x := ⟨_, rfl⟩
  rw [h1, h2, h3, h4, h5] at HR
  rw [h4] at S5
  rw [h5] at EV
  rw [h1] at EC
  obtain ⟨au, hau⟩ : ∃ a, coreC u = a := ⟨_, rfl⟩
  obtain ⟨av, hav⟩ : ∃ a, coreC v = a := ⟨_, rfl⟩
  rw [hau] at rA EC sA
  rw [hav] at rB EC sB
  have EQ := EC.out
  have HRh := Lib.hid HR
  obtain ⟨uh, huh⟩ : ∃ a, u.halted = a := ⟨_, rfl⟩
  obtain ⟨vh, hvh⟩ : ∃ a, v.halted = a := ⟨_, rfl⟩
  obtain ⟨ud, hud⟩ : ∃ a, u.done = a := ⟨_, rfl⟩
  obtain ⟨vd, hvd⟩ : ∃ a, v.done = a := ⟨_, rfl⟩
  rw [huh] at a30 h2
  rw [hvh] at e30 h2
  rw [hud] at a31 h3
  rw [hvd] at e31 h3
  clear kA kB hr h1 h4 h5 hau hav hb he hb' he' b0 b1 wu wv hu hv ho hl hcs hds HR EC huh hvh hud hvd
  clear z0
  subst hW1
  subst hW0
  rcases x1 with _ | _
  case false =>
    have hr : r = false := by have := HRh.out; simpa using this.symm
    subst hr
    clear HRh
    go_enter Tryd.func12, Tryd.ntmps12
    go_wp2_with (first
      | (refine wpList_load_mid rfl 26 (.tmp 5) rfl W.heap.size 0 rfl au _ rA.out Tryd.underlying26 rfl sA.out ?_)
      | (refine wpList_load_mid rfl 26 (.tmp 7) rfl (W.heap.size + 1) 0 rfl av _ rB.out Tryd.underlying26 rfl sB.out ?_))
    go_ret
    exact ⟨rfl, B1.out⟩
  case true => 
    rcases x2 with _ | _
    case false =>
      have hr : r = false := by have := HRh.out; simpa using this.symm
      subst hr
      clear HRh
      go_enter Tryd.func12, Tryd.ntmps12
      go_wp2_with (first
        | (refine wpList_load_mid rfl 26 (.tmp 5) rfl W.heap.size 0 rfl au _ rA.out Tryd.underlying26 rfl sA.out ?_)
        | (refine wpList_load_mid rfl 26 (.tmp 7) rfl (W.heap.size + 1) 0 rfl av _ rB.out Tryd.underlying26 rfl sB.out ?_))
      go_ret
      exact ⟨rfl, B1.out⟩
    case true =>
      rcases x3 with _ | _
      case false =>
        have hr : r = false := by have := HRh.out; simpa using this.symm
        subst hr
        clear HRh
        go_enter Tryd.func12, Tryd.ntmps12
        go_wp2_with (first
          | (refine wpList_load_mid rfl 26 (.tmp 5) rfl W.heap.size 0 rfl au _ rA.out Tryd.underlying26 rfl sA.out ?_)
          | (refine wpList_load_mid rfl 26 (.tmp 7) rfl (W.heap.size + 1) 0 rfl av _ rB.out Tryd.underlying26 rfl sB.out ?_))
        go_ret
        exact ⟨rfl, B1.out⟩
      case true =>
        rcases x4 with _ | _
        case false =>
          have hr : r = false := by have := HRh.out; simpa using this.symm
          subst hr
          clear HRh
          go_enter Tryd.func12, Tryd.ntmps12
          go_wp2_with (first
            | (refine wpList_load_mid rfl 26 (.tmp 5) rfl W.heap.size 0 rfl au _ rA.out Tryd.underlying26 rfl sA.out ?_)
            | (refine wpList_load_mid rfl 26 (.tmp 7) rfl (W.heap.size + 1) 0 rfl av _ rB.out Tryd.underlying26 rfl sB.out ?_)
            | (go_at_call 31; refine S5.out.mono ?_; rintro e w5 ⟨rfl, hb5⟩))
          go_ret
          exact ⟨rfl, B1.out.trans (hb5.mono B1.out.size)⟩
        case true =>
          have hr : r = x5 := by have := HRh.out; simpa using this.symm
          subst hr
          clear HRh
          go_enter Tryd.func12, Tryd.ntmps12
          go_wp2_with (first
            | (refine wpList_load_mid rfl 26 (.tmp 5) rfl W.heap.size 0 rfl au _ rA.out Tryd.underlying26 rfl sA.out ?_)
            | (refine wpList_load_mid rfl 26 (.tmp 7) rfl (W.heap.size + 1) 0 rfl av _ rB.out Tryd.underlying26 rfl sB.out ?_)
            | (go_at_call 31; refine S5.out.mono ?_; rintro e w5 ⟨rfl, hb5⟩
               have f32 := (hb5.cell (p := ⟨W.heap.size, 32, none⟩) (by simp; omega)).trans a32
               have g32 := (hb5.cell (p := ⟨W.heap.size + 1, 32, none⟩) (by simp)).trans e32)
            | (go_at_call 32; refine (EV.out _ hb5).mono ?_; rintro e w6 ⟨rfl, hb6⟩))
          go_ret
          exact ⟨rfl, (B1.out.trans (hb5.mono B1.out.size)).trans (hb6.mono (Nat.le_trans B1.out.size hb5.size))⟩
end Go.Proofs.YtnfkimhhgflfjaaDoor.Rep
