/- What the rows list of the package-level variables is what the walks ask; arguments that are instructions and slices of words. -/
import Derived.Test.YtihnglgknncgpaaGreatDoorPl2
import Derived.Test.YtihnglgknncgpaaGreatDoorCards
import Derived.Stop.LaidErr
import Derived.Deep.DeepHandedRow
import Derived.OpenShut
import Derived.Deep.Strs
import Derived.ProofKit
import Derived.Lib.LaidTab
namespace Go.Proofs.YtihnglgknncgpaaGreatDoor.Asm
open Go Go.RowKit Go.Proofs.YtihnglgknncgpaaGreatDoor.PAsmEveryWordHasOneLine Go.Proofs.YtihnglgknncgpaaGreatDoorW.PrintWords Go.Proofs.YtihnglgknncgpaaGreatDoorW.PrintLast Go.Proofs.YtihnglgknncgpaaGreatDoorW.PrintMore Go.Proofs.YtihnglgknncgpaaGreatDoor.Bm Go.Proofs.YtihnglgknncgpaaGreatDoor.Isa
set_option linter.unusedVariables false
set_option linter.unusedSimpArgs false
open Go.ChangeShapes Go.WideShapes Go.ChangeAt
section
variable {H : Type} {enc : TypeId × Value → H} {w : World} {base : Nat} {spare : Nat → Bool} {held : Bool}
set_option maxRecDepth 100000 in
/-- An argument that is an instruction: its five numbers. -/
theorem open_instr {b0 : Nat} {v : Value} {d : DataW H} {p : List MemPlace} (hv : Value.okWide Tryz.prog w .any b0 27 v) (h : DataW.Trod enc Tryz.prog w base spare held 27 v d p) :
    ∃ i : In, v = i.v ∧ small i.imm := by
  obtain ⟨cs, rfl, hsz⟩ := okWide_struct Tryz.underlying27 hv
  have hC : Tryz.prog.cellsOf 27 = 5 := by kernel_rfl
  have c3 : Tryz.prog.cellsOf 3 = 1 := by kernel_rfl
  have c21 : Tryz.prog.cellsOf 21 = 1 := by kernel_rfl
  obtain ⟨l⟩ := cs
  have hl : l.length = 5 := hsz.trans hC
  obtain ⟨a0, a1, a2, a3, a4, rfl⟩ : ∃ a0 a1 a2 a3 a4, l = [a0, a1, a2, a3, a4] := by
    match l, hl with
    | [a0, a1, a2, a3, a4], _ => exact ⟨a0, a1, a2, a3, a4, rfl⟩
  obtain ⟨fuel, hf⟩ := h
  obtain ⟨xs, n, _, _, _, hlen, hg⟩ := DataW.trod_struct Tryz.underlying27 hf
  have hx : xs.length = 5 := hlen
  obtain ⟨y0, y1, y2, y3, y4, rfl⟩ : ∃ y0 y1 y2 y3 y4, xs = [y0, y1, y2, y3, y4] := by
    match xs, hx with
    | [y0, y1, y2, y3, y4], _ => exact ⟨y0, y1, y2, y3, y4, rfl⟩
  have g0 := hg 0 _ rfl
  have g1 := hg 1 _ rfl
  have g2 := hg 2 _ rfl
  have g3 := hg 3 _ rfl
  have g4 := hg 4 _ rfl
  simp [Value.cells, c3, c21] at g0 g1 g2 g3 g4
  obtain ⟨n0, e0, _, _⟩ := DataW.trod_int Tryz.underlying3 g0
  obtain ⟨n1, e1, _, _⟩ := DataW.trod_int Tryz.underlying3 g1
  obtain ⟨n2, e2, _, _⟩ := DataW.trod_int Tryz.underlying3 g2
  obtain ⟨n3, e3, _, _⟩ := DataW.trod_int Tryz.underlying3 g3
  obtain ⟨n4, e4, _, w4⟩ := DataW.trod_int Tryz.underlying21 g4
  simp at e0 e1 e2 e3 e4
  subst e0 e1 e2 e3 e4
  exact ⟨⟨n0, n1, n2, n3, n4⟩, rfl, wf_i32 w4⟩
set_option maxRecDepth 100000 in
theorem parts_elem {c : List Value} {bs : List Bool} {m : Nat} {x : DataW H × List MemPlace} (hb : bs.length = 5) (h : DataW.trod enc Tryz.prog w base spare held m 81 c = some x) (hx : x.1 = .agg (bs.map fun b => .lit (.bool b))) :
    c = bs.map Value.bool := by
  have hC : Tryz.prog.cellsOf 81 = 5 := by kernel_rfl
  have c4 : Tryz.prog.cellsOf 4 = 1 := by kernel_rfl
  obtain ⟨xs, n, _, e, hcl, hlen, hg⟩ := DataW.trod_struct Tryz.underlying81 h
  have hl : c.length = 5 := hcl.trans hC
  obtain ⟨a0, a1, a2, a3, a4, rfl⟩ : ∃ a0 a1 a2 a3 a4, c = [a0, a1, a2, a3, a4] := by
    match c, hl with
    | [a0, a1, a2, a3, a4], _ => exact ⟨a0, a1, a2, a3, a4, rfl⟩
  obtain ⟨b0, b1, b2, b3, b4, rfl⟩ : ∃ b0 b1 b2 b3 b4, bs = [b0, b1, b2, b3, b4] := by
    match bs, hb with
    | [b0, b1, b2, b3, b4], _ => exact ⟨b0, b1, b2, b3, b4, rfl⟩
  have hxl : xs.length = 5 := hlen
  obtain ⟨y0, y1, y2, y3, y4, rfl⟩ : ∃ y0 y1 y2 y3 y4, xs = [y0, y1, y2, y3, y4] := by
    match xs, hxl with
    | [y0, y1, y2, y3, y4], _ => exact ⟨y0, y1, y2, y3, y4, rfl⟩
  subst e
  simp at hx
  obtain ⟨x0, x1, x2, x3, x4⟩ := hx
  have g0 := hg 0 _ rfl
  have g1 := hg 1 _ rfl
  have g2 := hg 2 _ rfl
  have g3 := hg 3 _ rfl
  have g4 := hg 4 _ rfl
  simp [c4] at g0 g1 g2 g3 g4
  obtain ⟨n0, e0, f0⟩ := DataW.trod_bool Tryz.underlying4 g0
  obtain ⟨n1, e1, f1⟩ := DataW.trod_bool Tryz.underlying4 g1
  obtain ⟨n2, e2, f2⟩ := DataW.trod_bool Tryz.underlying4 g2
  obtain ⟨n3, e3, f3⟩ := DataW.trod_bool Tryz.underlying4 g3
  obtain ⟨n4, e4, f4⟩ := DataW.trod_bool Tryz.underlying4 g4
  simp at e0 e1 e2 e3 e4
  subst e0 e1 e2 e3 e4 f0 f1 f2 f3 f4
  simp at x0 x1 x2 x3 x4
  subst x0 x1 x2 x3 x4
  rfl
end
theorem gF : Tryz.prog.globalNamed "gaoler/isa.forms" = some 2 := by kernel_rfl
theorem gFT : (Tryz.prog.globals[2]?).map (·.type) = some 85 := by kernel_rfl
theorem gP : Tryz.prog.globalNamed "gaoler/isa.parts" = some 1 := by kernel_rfl
theorem gPT : (Tryz.prog.globals[1]?).map (·.type) = some 82 := by kernel_rfl
theorem gB : Tryz.prog.globalNamed "math/bits.deBruijn64tab" = some 10 := by kernel_rfl
theorem var_lt {P : Program} {W : World} {name : String} {cs : Array Value} {g : Nat} (h : W.var? P name = some cs) (hg : P.globalNamed name = some g) : g < W.heap.size := by
  unfold World.var? at h
  rw [hg] at h
  simp only [Option.bind_some] at h
  refine Classical.byContradiction fun hc => ?_
  rw [Array.getElem?_eq_none (by omega)] at h
  cases h
theorem gN : Tryz.prog.globalNamed "gaoler/asm.names" = some 0 := by kernel_rfl
theorem gNT : (Tryz.prog.globals[0]?).map (·.type) = some 61 := by kernel_rfl
theorem gW : Tryz.prog.globalNamed "internal/strconv.uint64pow10" = some 3 := by kernel_rfl
theorem gWT : (Tryz.prog.globals[3]?).map (·.type) = some 120 := by kernel_rfl
theorem gES : Tryz.prog.globalNamed "strconv.ErrSyntax" = some 7 := by kernel_rfl
theorem gEST : (Tryz.prog.globals[7]?).map (·.type) = some 51 := by kernel_rfl
theorem gER : Tryz.prog.globalNamed "strconv.ErrRange" = some 8 := by kernel_rfl
theorem gERT : (Tryz.prog.globals[8]?).map (·.type) = some 51 := by kernel_rfl
theorem cells56 : Tryz.prog.cellsOf 61 = 26 := by kernel_rfl
theorem cells9 : Tryz.prog.cellsOf 9 = 1 := by kernel_rfl
theorem cells70 : Tryz.prog.cellsOf 77 = 1 := by kernel_rfl
theorem cells121 : Tryz.prog.cellsOf 120 = 20 := by kernel_rfl
theorem cells130 : Tryz.prog.cellsOf 139 = 1 := by kernel_rfl
theorem cells38 : Tryz.prog.cellsOf 22 = 1 := by kernel_rfl
theorem cells76 : Tryz.prog.cellsOf 85 = 26 := by kernel_rfl
theorem cells75 : Tryz.prog.cellsOf 82 = 40 := by kernel_rfl
theorem cells74 : Tryz.prog.cellsOf 81 = 5 := by kernel_rfl
theorem cells3 : Tryz.prog.cellsOf 3 = 1 := by kernel_rfl
set_option maxRecDepth 100000 in
theorem parts_cells {H : Type} {enc : TypeId × Value → H} {w : World} {base : Nat} {spare : Nat → Bool} {held : Bool} {fuel : Nat} {cs : List Value} {q : List MemPlace}
    (h : DataW.trod enc Tryz.prog w base spare held fuel 82 cs = some (Rows.laid_gaoler_isa_parts, q)) : cs = ptl.map Value.bool := by
  obtain ⟨xs, m, _, e, hcl, hxl, hg⟩ := DataW.trod_array Tryz.underlying82 h
  have hl : cs.length = 40 := hcl.trans cells75
  have hmap : xs.map (·.1) = (List.range 8).map (fun i => (.agg (((ptl.drop (i * 5)).take 5).map fun b => .lit (.bool b)) : DataW H)) := by
    have := congrArg Prod.fst e
    simp only [Rows.laid_gaoler_isa_parts, DataW.agg.injEq] at this
    rw [← this]
    rfl
  have seg : ∀ i, i < 8 → (cs.drop (i * 5)).take 5 = ((ptl.drop (i * 5)).take 5).map Value.bool := fun i hi => by
    have h1 := hg i hi
    rw [cells74] at h1
    obtain ⟨x, hx⟩ : ∃ x, xs[i]? = some x := ⟨xs[i]'(by omega), List.getElem?_eq_getElem (by omega)⟩
    rw [hx] at h1
    have h2 : (xs.map (·.1))[i]? = some x.1 := by rw [List.getElem?_map, hx]; rfl
    rw [hmap, List.getElem?_map, List.getElem?_range hi] at h2
    have h3 : x.1 = (.agg (((ptl.drop (i * 5)).take 5).map fun b => .lit (.bool b)) : DataW H) := by simpa using h2.symm
    refine parts_elem ?_ h1 h3
    have : ∀ i, i < 8 → ((ptl.drop (i * 5)).take 5).length = 5 := by decide
    exact this i hi
  apply List.ext_getElem?
  intro k
  by_cases hk : k < 40
  · have h1 := congrArg (fun l => l[k % 5]?) (seg (k / 5) (by omega))
    simp only [List.getElem?_take, List.getElem?_drop, List.getElem?_map, if_pos (show k % 5 < 5 by omega)] at h1
    rw [show k / 5 * 5 + k % 5 = k by omega] at h1
    rw [h1, List.getElem?_map]
  · have hp : ptl.length = 40 := rfl
    rw [List.getElem?_eq_none (by omega), List.getElem?_eq_none (by simp; omega)]
set_option maxRecDepth 100000 in
theorem names_cells {H : Type} {enc : TypeId × Value → H} {w : World} {base : Nat} {spare : Nat → Bool} {held : Bool} {fuel : Nat} {cs : List Value} {q : List MemPlace}
    (h : DataW.trod enc Tryz.prog w base spare held fuel 61 cs = some (Rows.laid_gaoler_asm_names, q)) : ∀ i, i < 26 → cs[i]? = some (.string ⟨(nml.getD i []).toArray⟩) := by
  obtain ⟨xs, m, _, e, hcl, hxl, hg⟩ := DataW.trod_array Tryz.underlying61 h
  have hl : cs.length = 26 := hcl.trans cells56
  have hmap : xs.map (·.1) = (nml.map (fun l => .lit (.string l)) : List (DataW H)) := by
    have := congrArg Prod.fst e
    simp only [Rows.laid_gaoler_asm_names, DataW.agg.injEq] at this
    rw [← this]
    rfl
  intro i hi
  have h1 := hg i hi
  rw [cells9, Nat.mul_one] at h1
  obtain ⟨x, hx⟩ : ∃ x, xs[i]? = some x := ⟨xs[i]'(by omega), List.getElem?_eq_getElem (by omega)⟩
  rw [hx] at h1
  have h2 : (xs.map (·.1))[i]? = some x.1 := by rw [List.getElem?_map, hx]; rfl
  rw [hmap, List.getElem?_map] at h2
  obtain ⟨s, es, ex, _⟩ := DataW.trod_string Tryz.underlying9 h1
  have hn : nml.length = 26 := rfl
  rw [List.getElem?_eq_getElem (by omega)] at h2
  rw [ex] at h2
  simp only [Option.map_some, Option.some.injEq, DataW.lit.injEq, Lit.string.injEq] at h2
  have hc : cs[i]? = some (.string s) := by
    have := congrArg (·[0]?) es
    simpa [List.getElem?_take, List.getElem?_drop] using this
  rw [hc, List.getD_eq_getElem?_getD, List.getElem?_eq_getElem (by omega), Option.getD_some, h2]
theorem star : "*" ++ "errors.errorString" = "*errors.errorString" := by decide
theorem row128 (u : TypeId) (h : Tryz.prog.typeName? 3 u = some "*errors.errorString") : u = 137 :=
  typeName_ptr_named (nm := "errors.errorString") (by rw [star]; kernel_rfl) (by kernel_rfl) (by decide) u (by rw [star]; exact h)
theorem pow_laid {H : Type} : (Rows.laid_internal_strconv_uint64pow10 : DataW H) = Lib.tabData .u64 Lib.pow10Tab := by rfl
set_option maxRecDepth 100000 in
/-- From what the row lists to what the walks ask. -/
theorem env_of_laid {W : World} (h : laidMet Tryz.prog [("gaoler/isa.forms", Rows.laid_gaoler_isa_forms), ("gaoler/isa.parts", Rows.laid_gaoler_isa_parts), ("math/bits.deBruijn32tab", Rows.laid_math_bits_deBruijn32tab), ("math/bits.deBruijn64tab", Rows.laid_math_bits_deBruijn64tab),
    ("internal/strconv.uint64pow10", Rows.laid_internal_strconv_uint64pow10), ("unicode/utf8.acceptRanges", Rows.laid_unicode_utf8_acceptRanges), ("strconv.ErrRange", Rows.laid_strconv_ErrRange), ("strconv.ErrSyntax", Rows.laid_strconv_ErrSyntax),
    ("gaoler/asm.names", Rows.laid_gaoler_asm_names), ("unicode/utf8.first", Rows.laid_unicode_utf8_first)] W) (hS : W.ShapedOpen Tryz.prog) : Env W := by
  have hF : Lib.TabIs Tryz.prog W "gaoler/isa.forms" .i64 fml := Lib.tabIs_of_head gF gFT Tryz.underlying85 Tryz.underlying3 cells3 cells76 h
  have t1 := h.tail
  have t3 := t1.tail.tail
  have t4 := t3.tail
  have hW : Lib.TabIs Tryz.prog W "internal/strconv.uint64pow10" .u64 Lib.pow10Tab := by
    rw [pow_laid] at t4
    exact Lib.tabIs_of_head gW gWT Tryz.underlying120 Tryz.underlying77 cells70 cells121 t4
  have t6 := t4.tail.tail
  have t7 := t6.tail
  have t8 := t7.tail
  obtain ⟨a1, s1, hER, _⟩ := laid_sentinel t6 gER gERT Tryz.underlying51 row128 Tryz.underlying137 Tryz.underlying139 rfl rfl Tryz.underlying9 cells130 cells9
  obtain ⟨a2, s2, hES, _⟩ := laid_sentinel t7 gES gEST Tryz.underlying51 row128 Tryz.underlying137 Tryz.underlying139 rfl rfl Tryz.underlying9 cells130 cells9
  obtain ⟨ps, ⟨g', t', cs, fuel, p, q, hg', ht', hvar, hd, _, _⟩, _⟩ := t1
  obtain rfl := Option.some.inj (gP.symm.trans hg')
  obtain rfl := Option.some.inj (gPT.symm.trans ht')
  have hcs := parts_cells hd
  obtain ⟨ps2, ⟨g2, u2, ns, fuel2, p2, q2, hg2, ht2, hvar2, hd2, _, _⟩, _⟩ := t8
  obtain rfl := Option.some.inj (gN.symm.trans hg2)
  obtain rfl := Option.some.inj (gNT.symm.trans ht2)
  have hns := names_cells hd2
  obtain ⟨ps3, ⟨g3, u3, ns3, fuel3, p3, q3, hg3, ht3, hvar3, hd3, _, _⟩, _⟩ := t3
  have hs11 : 11 ≤ W.heap.size := var_lt hvar3 gB
  refine ⟨⟨fun i hi => hF.cell gF i hi, fun i hi => ?_, by omega⟩, ⟨fun i hi => ?_⟩, hW, ⟨_, by have h0 := World.var?_cell gES hES 0; simpa using h0, .inr ⟨_, _, rfl⟩⟩, ⟨_, by have h0 := World.var?_cell gER hER 0; simpa using h0, .inr ⟨_, _, rfl⟩⟩, Tryz.laysM146.s1_3 W hS, hs11⟩
  · rw [World.var?_cell gP hvar i]
    have hp : ptl.length = 40 := rfl
    have : (ptl.map Value.bool)[i]? = some (Value.bool (ptl.getD i false)) := by
      rw [List.getElem?_map, List.getElem?_eq_getElem (by omega), List.getD_eq_getElem?_getD, List.getElem?_eq_getElem (by omega)]; rfl
    rw [← this, ← hcs]
    simp
  · rw [World.var?_cell gN hvar2 i]
    have := hns i hi
    simpa using this
theorem own : ownKnob Tryz.prog.godebug = none := by kernel_rfl
theorem laidOut : laidOutB Tryz.prog = true := by kernel_rfl
section
variable {H : Type} {enc : TypeId × Value → H} {w : World} {base : Nat} {spare : Nat → Bool} {held : Bool}
set_option maxRecDepth 100000 in
/-- An argument that is a slice of words. -/
theorem open_words {b0 : Nat} {v : Value} {d : DataW H} {p : List MemPlace} (hv : Value.okWide Tryz.prog w .any b0 25 v) (h : DataW.Trod enc Tryz.prog w base spare held 25 v d p) :
    ∃ A c ws, v = .slice A (ws : List Nat).length c ∧ Ws w A ws := by
  obtain ⟨a, len, cap, rfl⟩ := okWide_slice Tryz.underlying25 hv
  obtain ⟨fuel, hf⟩ := h
  rcases Go.Deep.open_slice1 Tryz.underlying25 cells38 hf with ⟨h1, _⟩ | ⟨a', len', cap', m, n, V, D, Pl, h1, _, hl, hm, hmm, _, hx⟩
  · have e : a = none ∧ len = 0 ∧ cap = 0 := by simpa [Value.cells] using h1
    obtain ⟨rfl, rfl, rfl⟩ := e
    exact ⟨none, 0, [], rfl, fun k x hk => by simp at hk⟩
  · have e : a = some a' ∧ len = len' ∧ cap = cap' := by simpa [Value.cells] using h1
    obtain ⟨rfl, rfl, rfl⟩ := e
    have hlm : len ≤ m := by rw [hmm]; split <;> omega
    have hV : ∀ i, i < len → ∃ n : Nat, n < 2 ^ 32 ∧ V i = .int .u32 (n : Int) := fun i hi => by
      obtain ⟨hc, ht⟩ := hx i (by omega)
      obtain ⟨z, ez, _, wz⟩ := DataW.trod_int Tryz.underlying22 ht
      obtain ⟨n, hn, rfl⟩ := wf_u32 wz
      exact ⟨n, hn, by simpa using ez⟩
    refine ⟨some a', cap, (List.range len).map (fun i => match V i with | .int _ z => z.toNat | _ => 0), by simp, fun k x hk => ?_⟩
    have hkl : k < len := by
      have := (List.getElem?_eq_some_iff.1 hk).1
      simpa using this
    obtain ⟨hc, _⟩ := hx k (by omega)
    obtain ⟨n, hn, hv⟩ := hV k hkl
    rw [List.getElem?_map, List.getElem?_range hkl] at hk
    simp [hv] at hk
    subst hk
    exact ⟨hn, a', rfl, World.block_lt_of_cell? w _ hc, by rw [hc, hv]⟩
end
/-- The cells of a datum. -/
def dcells : Nat → DataW Unit → List Value
  | 0, _ => []
  | _ + 1, .lit (.int k z) => [.int k z]
  | _ + 1, .lit (.bool b) => [.bool b]
  | _ + 1, .lit (.string l) => [.string ⟨l.toArray⟩]
  | n + 1, .agg l => l.flatMap (dcells n)
  | _, _ => []
/-- So many blocks has the settled world. -/
noncomputable def low : Nat := (World.holding Tryz.prog default ⟨#[], #[], []⟩).heap.size
def putCells (cs : List Value) : Obj → Obj
  | .cells _ t frozen => .cells cs.toArray t frozen
  | o => o
/-- A world in which the listed variables hold what their initialisers lay. -/
noncomputable def laidWorld (os : Os) : World :=
  let w0 := World.holding Tryz.prog os ⟨#[.cells #[.string ⟨#[118, 97, 108, 117, 101, 32, 111, 117, 116, 32, 111, 102, 32, 114, 97, 110, 103, 101]⟩] 139, .cells #[.string ⟨#[105, 110, 118, 97, 108, 105, 100, 32, 115, 121, 110, 116, 97, 120]⟩] 139], #[], []⟩
  { w0 with heap := (((((((((w0.heap.modify 0 (putCells (dcells 4 Rows.laid_gaoler_asm_names))).modify 1 (putCells (dcells 4 Rows.laid_gaoler_isa_parts))).modify 2 (putCells (dcells 4 Rows.laid_gaoler_isa_forms))).modify 5 (putCells (dcells 4 Rows.laid_unicode_utf8_first))).modify 6 (putCells (dcells 4 Rows.laid_unicode_utf8_acceptRanges))).modify 7 (putCells [.iface 137 (.pointer (some ⟨low + 1, 0, none⟩))])).modify 8 (putCells [.iface 137 (.pointer (some ⟨low, 0, none⟩))])).modify 3 (putCells (dcells 4 Rows.laid_internal_strconv_uint64pow10))).modify 9 (putCells (dcells 4 Rows.laid_math_bits_deBruijn32tab))).modify 10 (putCells (dcells 4 Rows.laid_math_bits_deBruijn64tab)) }
end Go.Proofs.YtihnglgknncgpaaGreatDoor.Asm
