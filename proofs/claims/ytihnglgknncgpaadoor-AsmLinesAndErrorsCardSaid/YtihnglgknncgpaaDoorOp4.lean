/- An argument that is a slice of words; nil has no room. -/
import Derived.Test.YtihnglgknncgpaaDoorOp3
namespace Go.Proofs.YtihnglgknncgpaaDoor.Asm
open Go Go.RowKit Go.Proofs.YtihnglgknncgpaaDoor.PAsmParseFormat Go.Proofs.YtihnglgknncgpaaDoorW.PrintWords Go.Proofs.YtihnglgknncgpaaDoorW.PrintLast Go.Proofs.YtihnglgknncgpaaDoorW.PrintMore Go.Proofs.YtihnglgknncgpaaDoor.Bm Go.Proofs.YtihnglgknncgpaaDoor.Isa
set_option linter.unusedVariables false
set_option linter.unusedSimpArgs false
open Go.ChangeShapes Go.WideShapes Go.ChangeAt
section
variable {H : Type} {enc : TypeId × Value → H} {w : World} {base : Nat} {spare : Nat → Bool} {held : Bool}
set_option maxRecDepth 100000 in
/-- An argument that is a slice of words; nil has no room. -/
theorem open_words2 {b0 : Nat} {v : Value} {d : DataW H} {p : List MemPlace} (hv : Value.okWide Tryd.prog w .any b0 22 v) (h : DataW.Trod enc Tryd.prog w base spare held 22 v d p) :
    ∃ A c ws, v = .slice A (ws : List Nat).length c ∧ (Ws w A ws ∧ (A = none → c = 0)) := by
  obtain ⟨a, len, cap, rfl⟩ := okWide_slice Tryd.underlying22 hv
  obtain ⟨fuel, hf⟩ := h
  rcases Go.Deep.open_slice1 Tryd.underlying22 cells38 hf with ⟨h1, _⟩ | ⟨a', len', cap', m, n, V, D, Pl, h1, _, hl, hm, hmm, _, hx⟩
  · have e : a = none ∧ len = 0 ∧ cap = 0 := by simpa [Value.cells] using h1
    obtain ⟨rfl, rfl, rfl⟩ := e
    exact ⟨none, 0, [], rfl, fun k x hk => by simp at hk, fun _ => rfl⟩
  · have e : a = some a' ∧ len = len' ∧ cap = cap' := by simpa [Value.cells] using h1
    obtain ⟨rfl, rfl, rfl⟩ := e
    have hlm : len ≤ m := by rw [hmm]; split <;> omega
    have hV : ∀ i, i < len → ∃ n : Nat, n < 2 ^ 32 ∧ V i = .int .u32 (n : Int) := fun i hi => by
      obtain ⟨hc, ht⟩ := hx i (by omega)
      obtain ⟨z, ez, _, wz⟩ := DataW.trod_int Tryd.underlying38 ht
      obtain ⟨n, hn, rfl⟩ := wf_u32 wz
      exact ⟨n, hn, by simpa using ez⟩
    refine ⟨some a', cap, (List.range len).map (fun i => match V i with | .int _ z => z.toNat | _ => 0), by simp, fun k x hk => ?_, fun h => by cases h⟩
    have hkl : k < len := by
      have := (List.getElem?_eq_some_iff.1 hk).1
      simpa using this
    obtain ⟨hc, _⟩ := hx k (by omega)
    obtain ⟨n, hn, hv⟩ := hV k hkl
    rw [List.getElem?_map, List.getElem?_range hkl] at hk
    simp [hv] at hk
    subst hk
    exact ⟨hn, a', rfl, World.block_lt_of_cell? w _ hc, by rw [hc, hv]⟩
end
end Go.Proofs.YtihnglgknncgpaaDoor.Asm
