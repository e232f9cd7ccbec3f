/- A core handed in. -/
import Derived.Test.YtnfkimhhgflfjaaDoorR29
namespace Go.Proofs.YtnfkimhhgflfjaaDoor.Rep
open Go Go.RowKit Go.Shelf
set_option linter.unusedVariables false
set_option linter.unusedSimpArgs false
/-! ### A core handed in, and a virtual CPU with other registers -/
open Go.ChangeShapes Go.WideShapes Go.ChangeAt
section
variable {H : Type} {enc : TypeId × Value → H} {w : World} {base : Nat} {spare : Nat → Bool} {held : Bool}
set_option maxRecDepth 100000 in
/-- An argument that is a core. -/
theorem open_core_arg {b0 : Nat} {v : Value} {d : DataW H} {p : List MemPlace} (hv : Value.okWide Tryd.prog w .any b0 26 v) (h : DataW.Trod enc Tryd.prog w base spare held 26 v d p) :
    ∃ (cs : List Value) (x : Vp), v = .agg cs.toArray ∧ x.wf ∧ cs = coreC x := by
  obtain ⟨cs, rfl, hsz⟩ := okWide_struct Tryd.underlying26 hv
  obtain ⟨l⟩ := cs
  have hl : l.length = 29 := hsz.trans cells26
  obtain ⟨fuel, hf⟩ := h
  have hf : DataW.trod enc Tryd.prog w base spare held fuel 26 l = some (d, p) := by simpa [Value.cells] using hf
  obtain ⟨f, hf2⟩ := Go.Deep.choose_lt (open_core hf)
  obtain ⟨x, hxx⟩ : ∃ x : Vp, x = { regs := (List.range 16).map f, pc := f 16, csr := (List.range 12).map (fun i => f (17 + i)), out := [], halted := false, done := 0, log := [] } := ⟨_, rfl⟩
  have wf : x.wf := by
    rw [hxx]
    refine ⟨by simp, by simp, (hf2 16 (by omega)).2, by dsimp only; omega, fun e he => (by cases he), fun z hz => ?_, fun z hz => ?_⟩
    · obtain ⟨i, hi, rfl⟩ := List.mem_map.1 hz
      exact (hf2 i (by have := List.mem_range.1 hi; omega)).2
    · obtain ⟨i, hi, rfl⟩ := List.mem_map.1 hz
      exact (hf2 (17 + i) (by have := List.mem_range.1 hi; omega)).2
  refine ⟨l, x, rfl, wf, ?_⟩
  apply List.ext_getElem?
  intro j
  have hcl := coreC_len wf
  rcases Nat.lt_or_ge j 29 with hj | hj
  · have e : (coreC x)[j]? = (vcs x none 0 none 0)[j]? := by
      have e : vcs x none 0 none 0 = coreC x ++ [.slice none x.out.length 0, .bool x.halted, .int .i64 x.done, .slice none x.log.length 0] := by simp [vcs, coreC]
      rw [e, List.getElem?_append_left (by omega)]
    rw [e]
    rcases Nat.lt_or_ge j 16 with h1 | h1
    · rw [(hf2 j (by omega)).1, vcs_reg wf _ _ _ _ j h1, hxx]
      simp [List.getD, h1]
    · rcases Nat.lt_or_ge 16 j with h3 | h3
      · rw [(hf2 j hj).1, show j = 17 + (j - 17) by omega, vcs_csr wf _ _ _ _ (j - 17) (by omega), hxx]
        have : j - 17 < 12 := by omega
        simp [List.getD, this]
      · obtain rfl : j = 16 := by omega
        rw [(hf2 16 (by omega)).1, vcs_pc wf, hxx]
  · rw [List.getElem?_eq_none (by omega), List.getElem?_eq_none (by omega)]
end
end Go.Proofs.YtnfkimhhgflfjaaDoor.Rep
