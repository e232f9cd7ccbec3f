/- An argument that is a slice of bool is a list of flags. -/
import Derived.Test.YtppaegfmmegabaaRing
import Derived.ProofKit
import Derived.OpenShut
import Derived.Deep.Slices
import Derived.Carry
namespace Go.Proofs.Ytppaegfmmegabaa.Sched
open Go Go.RowKit Go.Shelf
set_option linter.unusedVariables false
set_option linter.unusedSimpArgs false
open Go.ChangeShapes Go.WideShapes Go.ChangeAt
theorem laidOut : laidOutB Try.prog = true := by kernel_rfl
theorem cells4 : Try.prog.cellsOf 4 = 1 := by kernel_rfl
/-- An argument that is a slice of bool: its flags. -/
theorem open_flags {H : Type} {enc : TypeId × Value → H} {w : World} {base : Nat} {spare : Nat → Bool} {held : Bool} {b0 : Nat} {v : Value} {d : DataW H} {p : List MemPlace}
    (hv : Value.okWide Try.prog w .any b0 22 v) (h : DataW.Trod enc Try.prog w base spare held 22 v d p) :
    ∃ A c hs, v = .slice A (hs : List Bool).length c ∧ hs.length ≤ 9223372036854775807 ∧ Bs w A hs := by
  obtain ⟨a, len, cap, rfl⟩ := okWide_slice Try.underlying22 hv
  obtain ⟨fuel, hf⟩ := h
  rcases Go.Deep.open_slice1 Try.underlying22 cells4 hf with ⟨h1, _⟩ | ⟨a', len', cap', m, n, V, D, Pl, h1, _, hl, hm, hmm, _, hx⟩
  · have e : a = none ∧ len = 0 ∧ cap = 0 := by simpa [Value.cells] using h1
    obtain ⟨rfl, rfl, rfl⟩ := e
    exact ⟨none, 0, [], rfl, by simp, fun k hk => by simp at hk⟩
  · have e : a = some a' ∧ len = len' ∧ cap = cap' := by simpa [Value.cells] using h1
    obtain ⟨rfl, rfl, rfl⟩ := e
    have hlm : len ≤ m := by rw [hmm]; split <;> omega
    refine ⟨some a', cap, (List.range len).map (fun i => match V i with | .bool b => b | _ => false), by simp, by simp; unfold maxLen at hm; omega, fun k hk => ?_⟩
    simp only [List.length_map, List.length_range] at hk
    obtain ⟨hc, ht⟩ := hx k (by omega)
    obtain ⟨b, eb, _⟩ := DataW.trod_bool Try.underlying4 ht
    have ev : V k = .bool b := by simpa using eb
    have hlt := World.block_lt_of_cell? w (a'.add k) hc
    refine ⟨a', rfl, ?_, ?_⟩
    · have : (a'.add k).block = a'.block := by unfold Addr.add; split <;> rfl
      rw [this] at hlt; exact hlt
    · rw [hc, List.getElem?_map, List.getElem?_range hk, ev]
      simp [ev]
end Go.Proofs.Ytppaegfmmegabaa.Sched
