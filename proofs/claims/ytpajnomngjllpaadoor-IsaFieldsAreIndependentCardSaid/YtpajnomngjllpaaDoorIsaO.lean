/- An argument that is an instruction is five numbers; what the rows list of isa.forms and isa.parts is what the walks ask of the two tables. -/
import Derived.Test.YtpajnomngjllpaaDoorIsaW7
import Derived.Test.YtpajnomngjllpaaDoorRows
import Derived.ProofKit
import Derived.OpenShut
import Derived.Deep.DeepHandedRow
import Derived.Lib.LaidTab
import Derived.Stop.LaidErr
namespace Go.Proofs.YtpajnomngjllpaaDoor.Isa
open Go Go.RowKit Go.Proofs.YtpajnomngjllpaaDoor.PIsaUnusedBitsMustBeZero Go.Proofs.YtpajnomngjllpaaDoorW.PrintWords Go.Proofs.YtpajnomngjllpaaDoorW.PrintLast Go.Proofs.YtpajnomngjllpaaDoorW.PrintMore Go.Proofs.YtpajnomngjllpaaDoor.Bm
set_option linter.unusedVariables false
set_option linter.unusedSimpArgs false
open Go.ChangeShapes Go.WideShapes Go.ChangeAt
section
variable {H : Type} {enc : TypeId × Value → H} {w : World} {base : Nat} {spare : Nat → Bool} {held : Bool}
/-- An argument that is an instruction: its five numbers. -/
theorem open_instr {b0 : Nat} {v : Value} {d : DataW H} {p : List MemPlace} (hv : Value.okWide Tryd.prog w .any b0 23 v) (h : DataW.Trod enc Tryd.prog w base spare held 23 v d p) :
    ∃ i : In, v = i.v ∧ small i.imm := by
  obtain ⟨cs, rfl, hsz⟩ := okWide_struct Tryd.underlying23 hv
  have hC : Tryd.prog.cellsOf 23 = 5 := by kernel_rfl
  have c3 : Tryd.prog.cellsOf 3 = 1 := by kernel_rfl
  have c21 : Tryd.prog.cellsOf 21 = 1 := by kernel_rfl
  obtain ⟨l⟩ := cs
  have hl : l.length = 5 := hsz.trans hC
  obtain ⟨a0, a1, a2, a3, a4, rfl⟩ : ∃ a0 a1 a2 a3 a4, l = [a0, a1, a2, a3, a4] := by
    match l, hl with
    | [a0, a1, a2, a3, a4], _ => exact ⟨a0, a1, a2, a3, a4, rfl⟩
  obtain ⟨fuel, hf⟩ := h
  obtain ⟨xs, n, _, _, _, hlen, hg⟩ := DataW.trod_struct Tryd.underlying23 hf
  have hx : xs.length = 5 := hlen
  obtain ⟨y0, y1, y2, y3, y4, rfl⟩ : ∃ y0 y1 y2 y3 y4, xs = [y0, y1, y2, y3, y4] := by
    match xs, hx with
    | [y0, y1, y2, y3, y4], _ => exact ⟨y0, y1, y2, y3, y4, rfl⟩
  have g0 := hg 0 _ rfl
  have g1 := hg 1 _ rfl
  have g2 := hg 2 _ rfl
  have g3 := hg 3 _ rfl
  have g4 := hg 4 _ rfl
  simp [Value.cells, c3, c21] at g0 g1 g2 g3 g4
  obtain ⟨n0, e0, _, _⟩ := DataW.trod_int Tryd.underlying3 g0
  obtain ⟨n1, e1, _, _⟩ := DataW.trod_int Tryd.underlying3 g1
  obtain ⟨n2, e2, _, _⟩ := DataW.trod_int Tryd.underlying3 g2
  obtain ⟨n3, e3, _, _⟩ := DataW.trod_int Tryd.underlying3 g3
  obtain ⟨n4, e4, _, w4⟩ := DataW.trod_int Tryd.underlying21 g4
  simp at e0 e1 e2 e3 e4
  subst e0 e1 e2 e3 e4
  exact ⟨⟨n0, n1, n2, n3, n4⟩, rfl, wf_i32 w4⟩
theorem parts_elem {c : List Value} {bs : List Bool} {m : Nat} {x : DataW H × List MemPlace} (hb : bs.length = 5) (h : DataW.trod enc Tryd.prog w base spare held m 44 c = some x) (hx : x.1 = .agg (bs.map fun b => .lit (.bool b))) :
    c = bs.map Value.bool := by
  have hC : Tryd.prog.cellsOf 44 = 5 := by kernel_rfl
  have c4 : Tryd.prog.cellsOf 4 = 1 := by kernel_rfl
  obtain ⟨xs, n, _, e, hcl, hlen, hg⟩ := DataW.trod_struct Tryd.underlying44 h
  have hl : c.length = 5 := hcl.trans hC
  obtain ⟨a0, a1, a2, a3, a4, rfl⟩ : ∃ a0 a1 a2 a3 a4, c = [a0, a1, a2, a3, a4] := by
    match c, hl with
    | [a0, a1, a2, a3, a4], _ => exact ⟨a0, a1, a2, a3, a4, rfl⟩
  obtain ⟨b0, b1, b2, b3, b4, rfl⟩ : ∃ b0 b1 b2 b3 b4, bs = [b0, b1, b2, b3, b4] := by
    match bs, hb with
    | [b0, b1, b2, b3, b4], _ => exact ⟨b0, b1, b2, b3, b4, rfl⟩
  have hxl : xs.length = 5 := hlen
  obtain ⟨y0, y1, y2, y3, y4, rfl⟩ : ∃ y0 y1 y2 y3 y4, xs = [y0, y1, y2, y3, y4] := by
    match xs, hxl with
    | [y0, y1, y2, y3, y4], _ => exact ⟨y0, y1, y2, y3, y4, rfl⟩
  subst e
  simp at hx
  obtain ⟨x0, x1, x2, x3, x4⟩ := hx
  have g0 := hg 0 _ rfl
  have g1 := hg 1 _ rfl
  have g2 := hg 2 _ rfl
  have g3 := hg 3 _ rfl
  have g4 := hg 4 _ rfl
  simp [c4] at g0 g1 g2 g3 g4
  obtain ⟨n0, e0, f0⟩ := DataW.trod_bool Tryd.underlying4 g0
  obtain ⟨n1, e1, f1⟩ := DataW.trod_bool Tryd.underlying4 g1
  obtain ⟨n2, e2, f2⟩ := DataW.trod_bool Tryd.underlying4 g2
  obtain ⟨n3, e3, f3⟩ := DataW.trod_bool Tryd.underlying4 g3
  obtain ⟨n4, e4, f4⟩ := DataW.trod_bool Tryd.underlying4 g4
  simp at e0 e1 e2 e3 e4
  subst e0 e1 e2 e3 e4 f0 f1 f2 f3 f4
  simp at x0 x1 x2 x3 x4
  subst x0 x1 x2 x3 x4
  rfl
end
theorem gF : Tryd.prog.globalNamed "gaoler/isa.forms" = some 1 := by kernel_rfl
theorem gFT : (Tryd.prog.globals[1]?).map (·.type) = some 47 := by kernel_rfl
theorem gP : Tryd.prog.globalNamed "gaoler/isa.parts" = some 0 := by kernel_rfl
theorem gPT : (Tryd.prog.globals[0]?).map (·.type) = some 45 := by kernel_rfl
theorem cells47 : Tryd.prog.cellsOf 47 = 26 := by kernel_rfl
theorem cells45 : Tryd.prog.cellsOf 45 = 40 := by kernel_rfl
theorem cells44 : Tryd.prog.cellsOf 44 = 5 := by kernel_rfl
theorem cells3 : Tryd.prog.cellsOf 3 = 1 := by kernel_rfl
theorem parts_cells {H : Type} {enc : TypeId × Value → H} {w : World} {base : Nat} {spare : Nat → Bool} {held : Bool} {fuel : Nat} {cs : List Value} {q : List MemPlace}
    (h : DataW.trod enc Tryd.prog w base spare held fuel 45 cs = some (Rows.laid_gaoler_isa_parts, q)) : cs = ptl.map Value.bool := by
  obtain ⟨xs, m, _, e, hcl, hxl, hg⟩ := DataW.trod_array Tryd.underlying45 h
  have hl : cs.length = 40 := hcl.trans cells45
  have hmap : xs.map (·.1) = (List.range 8).map (fun i => (.agg (((ptl.drop (i * 5)).take 5).map fun b => .lit (.bool b)) : DataW H)) := by
    have := congrArg Prod.fst e
    simp only [Rows.laid_gaoler_isa_parts, DataW.agg.injEq] at this
    rw [← this]
    rfl
  have seg : ∀ i, i < 8 → (cs.drop (i * 5)).take 5 = ((ptl.drop (i * 5)).take 5).map Value.bool := fun i hi => by
    have h1 := hg i hi
    rw [cells44] at h1
    obtain ⟨x, hx⟩ : ∃ x, xs[i]? = some x := ⟨xs[i]'(by omega), List.getElem?_eq_getElem (by omega)⟩
    rw [hx] at h1
    have h2 : (xs.map (·.1))[i]? = some x.1 := by rw [List.getElem?_map, hx]; rfl
    rw [hmap, List.getElem?_map, List.getElem?_range hi] at h2
    have h3 : x.1 = (.agg (((ptl.drop (i * 5)).take 5).map fun b => .lit (.bool b)) : DataW H) := by simpa using h2.symm
    refine parts_elem ?_ h1 h3
    have : ∀ i, i < 8 → ((ptl.drop (i * 5)).take 5).length = 5 := by decide
    exact this i hi
  apply List.ext_getElem?
  intro k
  by_cases hk : k < 40
  · have h1 := congrArg (fun l => l[k % 5]?) (seg (k / 5) (by omega))
    simp only [List.getElem?_take, List.getElem?_drop, List.getElem?_map, if_pos (show k % 5 < 5 by omega)] at h1
    rw [show k / 5 * 5 + k % 5 = k by omega] at h1
    rw [h1, List.getElem?_map]
  · have hp : ptl.length = 40 := rfl
    rw [List.getElem?_eq_none (by omega), List.getElem?_eq_none (by simp; omega)]
/-- From what the row lists to what the walks ask. -/
theorem tabs_of_laid {W : World} (h : laidMet Tryd.prog [("gaoler/isa.forms", Rows.laid_gaoler_isa_forms), ("gaoler/isa.parts", Rows.laid_gaoler_isa_parts)] W) : Tabs W := by
  have hF : Lib.TabIs Tryd.prog W "gaoler/isa.forms" .i64 fml := Lib.tabIs_of_head gF gFT Tryd.underlying47 Tryd.underlying3 cells3 cells47 h
  obtain ⟨ps, ⟨g', t', cs, fuel, p, q, hg', ht', hvar, hd, _, _⟩, _⟩ := h.tail
  obtain rfl := Option.some.inj (gP.symm.trans hg')
  obtain rfl := Option.some.inj (gPT.symm.trans ht')
  have hcs := parts_cells hd
  have hs : 2 ≤ W.heap.size := World.block_lt_of_cell? W ⟨1, 0, none⟩ (hF.cell gF 0 (by decide))
  refine ⟨fun i hi => hF.cell gF i hi, fun i hi => ?_, hs⟩
  rw [World.var?_cell gP hvar i]
  have hp : ptl.length = 40 := rfl
  have : (ptl.map Value.bool)[i]? = some (Value.bool (ptl.getD i false)) := by
    rw [List.getElem?_map, List.getElem?_eq_getElem (by omega), List.getD_eq_getElem?_getD, List.getElem?_eq_getElem (by omega)]; rfl
  rw [← this, ← hcs]
  simp
theorem own : ownKnob Tryd.prog.godebug = none := by kernel_rfl
theorem laidOut : laidOutB Tryd.prog = true := by kernel_rfl
/-- A world in which the two tables hold what their initialisers lay. -/
noncomputable def laidWorld (os : Os) : World :=
  let w0 := World.holding Tryd.prog os ⟨#[], #[], []⟩
  { w0 with heap := (w0.heap.modify 1 fun
      | .cells _ t frozen => .cells (fml.map fun n => Value.int .i64 n).toArray t frozen
      | o => o).modify 0 fun
      | .cells _ t frozen => .cells (ptl.map Value.bool).toArray t frozen
      | o => o }
end Go.Proofs.YtpajnomngjllpaaDoor.Isa
