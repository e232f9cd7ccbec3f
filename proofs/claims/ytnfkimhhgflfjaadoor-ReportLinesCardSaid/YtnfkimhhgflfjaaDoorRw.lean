/- A virtual CPU with another core's registers. -/
import Derived.Test.YtnfkimhhgflfjaaDoorR31
namespace Go.Proofs.YtnfkimhhgflfjaaDoor.Rep
open Go Go.RowKit Go.Shelf
set_option linter.unusedVariables false
set_option linter.unusedSimpArgs false
/-! ### A virtual CPU with another core's registers and CSRs -/
/-- Cells written over from o on. -/
def putL (cs : List Value) : Nat → List Value → List Value
  | _, [] => cs
  | o, u :: r => putL (cs.set o u) (o + 1) r
theorem putL_len : ∀ (vs cs : List Value) (o : Nat), (putL cs o vs).length = cs.length
  | [], _, _ => rfl
  | u :: r, cs, o => by rw [putL, putL_len r, List.length_set]
theorem putL_get : ∀ (vs cs : List Value) (o j : Nat), o + vs.length ≤ cs.length → (putL cs o vs)[j]? = if o ≤ j ∧ j < o + vs.length then vs[j - o]? else cs[j]?
  | [], cs, o, j, _ => by rw [putL, if_neg (by rw [List.length_nil]; omega)]
  | u :: r, cs, o, j, h => by
    rw [List.length_cons] at h
    rw [putL, putL_get r (cs.set o u) (o + 1) j (by rw [List.length_set]; omega), List.length_cons]
    by_cases h1 : o + 1 ≤ j ∧ j < o + 1 + r.length
    · rw [if_pos h1, if_pos ⟨by omega, by omega⟩, show j - o = (j - (o + 1)) + 1 by omega, List.getElem?_cons_succ]
    · rw [if_neg h1]
      by_cases h2 : j = o
      · subst h2
        rw [if_pos ⟨by omega, by omega⟩, Nat.sub_self, List.getElem?_cons_zero, List.getElem?_set_self (by omega)]
      · rw [if_neg (by omega), List.getElem?_set_ne (by omega)]
theorem VBox.part {b : Nat} : ∀ (vs : List Value) (o : Nat) {W : World} {cs : List Value}, VBox W b cs → cs.length = 33 → o + vs.length ≤ 33 → VBox (W.setCells b o vs) b (putL cs o vs)
  | [], _, _, _, h, _, _ => h
  | u :: r, o, W, cs, h, hl, ho => by
    rw [List.length_cons] at ho
    rw [World.setCells, putL]
    exact VBox.part r (o + 1) (h.set hl o (by omega) u) (by rw [List.length_set]; exact hl) (by omega)
/-- v with x's registers and CSRs, but for those that must be zero. -/
def mixV (v x : Vp) : Vp := { v with regs := x.regs.set 0 0, csr := (x.csr.set 7 0).set 8 0 }
theorem mixV_wf {v x : Vp} (hv : v.wf) (hx : x.wf) : (mixV v x).wf := by
  refine ⟨by simp [mixV, hx.regs], by simp [mixV, hx.csr], hv.pc, hv.done, hv.log, fun z hz => ?_, fun z hz => ?_⟩
  · unfold mixV at hz
    rcases List.mem_or_eq_of_mem_set hz with h | rfl
    · exact hx.r32 z h
    · unfold w32; omega
  · unfold mixV at hz
    rcases List.mem_or_eq_of_mem_set hz with h | rfl
    · rcases List.mem_or_eq_of_mem_set h with h | rfl
      · exact hx.c32 z h
      · unfold w32; omega
    · unfold w32; omega
theorem mixV_ok {v x : Vp} (hx : x.wf) (h : fOk v = true) : fOk (mixV v x) = true := by
  obtain ⟨h1, h2, h3⟩ := fOk_parts h
  have l1 := hx.regs
  have l2 := hx.csr
  unfold fOk vOk hdOk
  simp only [Bool.and_eq_true, decide_eq_true_eq]
  refine ⟨⟨⟨?_, ?_, ?_, h1.2.2.2⟩, h2⟩, h3⟩
  · unfold mixV; simp [List.getD, List.getElem?_set, l1]
  · unfold mixV; simp [List.getD, List.getElem?_set, l2]
  · unfold mixV; simp [List.getD, List.getElem?_set, l2]
theorem mixV_text (v x : Vp) : textL (mixV v x) = textL v := rfl
theorem mix_cells {v x : Vp} (hv : v.wf) (hx : x.wf) (p : Option Addr) (c : Nat) (q : Option Addr) (d : Nat) :
    (((putL ((putL (vcs v p c q d) 0 (x.regs.map (Value.int .u32))).set 0 (.int .u32 0)) 17 (x.csr.map (Value.int .u32))).set 24 (.int .u32 0)).set 25 (.int .u32 0)) = vcs (mixV v x) p c q d := by
  have l1 := hx.regs
  have l2 := hx.csr
  have lv := vcs_len hv p c q d
  have wm := mixV_wf hv hx
  apply List.ext_getElem?
  intro j
  have lm := vcs_len wm p c q d
  rcases Nat.lt_or_ge j 33 with hj | hj
  · by_cases h25 : j = 25
    · subst h25
      rw [List.getElem?_set_self (by simp only [List.length_set, putL_len, lv]; omega)]
      have := vcs_csr wm p c q d 8 (by omega)
      rw [this]
      unfold mixV; simp [List.getD, List.getElem?_set, l2]
    · rw [List.getElem?_set_ne (fun e => h25 e.symm)]
      by_cases h24 : j = 24
      · subst h24
        rw [List.getElem?_set_self (by simp only [List.length_set, putL_len, lv]; omega)]
        have := vcs_csr wm p c q d 7 (by omega)
        rw [this]
        unfold mixV; simp [List.getD, List.getElem?_set, l2]
      · rw [List.getElem?_set_ne (fun e => h24 e.symm), putL_get _ _ _ _ (by simp only [List.length_set, putL_len, lv, List.length_map, l2]; omega), List.length_map, l2]
        by_cases hc : 17 ≤ j ∧ j < 17 + 12
        · rw [if_pos hc, List.getElem?_map]
          have := vcs_csr wm p c q d (j - 17) (by omega)
          rw [show 17 + (j - 17) = j by omega] at this
          rw [this]
          have h3 : j - 17 < x.csr.length := by omega
          have n7 : 7 ≠ j - 17 := by omega
          have n8 : 8 ≠ j - 17 := by omega
          unfold mixV
          rw [List.getD, List.getElem?_set_ne n8, List.getElem?_set_ne n7, List.getElem?_eq_getElem h3]
          rfl
        · rw [if_neg hc]
          by_cases h0 : j = 0
          · subst h0
            rw [List.getElem?_set_self (by simp only [putL_len, lv]; omega), vcs_reg wm p c q d 0 (by omega)]
            unfold mixV; simp [List.getD, List.getElem?_set, l1]
          · rw [List.getElem?_set_ne (fun e => h0 e.symm), putL_get _ _ _ _ (by simp only [lv, List.length_map, l1]; omega), List.length_map, l1]
            by_cases hr : 0 ≤ j ∧ j < 0 + 16
            · rw [if_pos hr, Nat.sub_zero, List.getElem?_map, vcs_reg wm p c q d j (by omega)]
              have h3 : j < x.regs.length := by omega
              unfold mixV
              rw [List.getD, List.getElem?_set_ne (fun e => h0 e.symm), List.getElem?_eq_getElem h3]
              rfl
            · rw [if_neg hr]
              by_cases h16 : j = 16
              · subst h16
                rw [vcs_pc hv, vcs_pc wm]
                rfl
              · have e1 := vcs_end hv p c q d (j - 29)
                have e2 := vcs_end wm p c q d (j - 29)
                rw [show 29 + (j - 29) = j by omega] at e1 e2
                rw [e1, e2]
                rfl
  · rw [List.getElem?_eq_none (by simp only [List.length_set, putL_len, lv]; omega), List.getElem?_eq_none (by omega)]
end Go.Proofs.YtnfkimhhgflfjaaDoor.Rep
