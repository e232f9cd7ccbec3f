/- What the rows list of the package-level variables; gaolerlaw28.ReportParseFormatted. -/
import Derived.Test.YtnfkimhhgflfjaaDoorR28
namespace Go.Proofs.YtnfkimhhgflfjaaDoor.Rep
open Go Go.RowKit Go.Shelf
set_option linter.unusedVariables false
set_option linter.unusedSimpArgs false
/-! ### What the rows list of the package-level variables -/
open Go.ChangeShapes Go.WideShapes Go.ChangeAt
theorem gWd : Tryd.prog.globalNamed "gaoler/report.words" = some 0 := by kernel_rfl
theorem gWdT : (Tryd.prog.globals[0]?).map (·.type) = some 62 := by kernel_rfl
theorem gPw : Tryd.prog.globalNamed "internal/strconv.uint64pow10" = some 1 := by kernel_rfl
theorem gPwT : (Tryd.prog.globals[1]?).map (·.type) = some 120 := by kernel_rfl
theorem gES : Tryd.prog.globalNamed "strconv.ErrSyntax" = some 5 := by kernel_rfl
theorem gEST : (Tryd.prog.globals[5]?).map (·.type) = some 81 := by kernel_rfl
theorem gER : Tryd.prog.globalNamed "strconv.ErrRange" = some 6 := by kernel_rfl
theorem gERT : (Tryd.prog.globals[6]?).map (·.type) = some 81 := by kernel_rfl
theorem gB64 : Tryd.prog.globalNamed "math/bits.deBruijn64tab" = some 8 := by kernel_rfl
theorem cells62 : Tryd.prog.cellsOf 62 = 4 := by kernel_rfl
theorem cells9 : Tryd.prog.cellsOf 9 = 1 := by kernel_rfl
theorem cells120 : Tryd.prog.cellsOf 120 = 20 := by kernel_rfl
theorem cells137 : Tryd.prog.cellsOf 137 = 1 := by kernel_rfl
theorem var_lt {P : Program} {W : World} {name : String} {cs : Array Value} {g : Nat} (h : W.var? P name = some cs) (hg : P.globalNamed name = some g) : g < W.heap.size := by
  unfold World.var? at h
  rw [hg] at h
  simp only [Option.bind_some] at h
  refine Classical.byContradiction fun hc => ?_
  rw [Array.getElem?_eq_none (by omega)] at h
  cases h
set_option maxRecDepth 100000 in
theorem words_cells {H : Type} {enc : TypeId × Value → H} {w : World} {base : Nat} {spare : Nat → Bool} {held : Bool} {fuel : Nat} {cs : List Value} {q : List MemPlace}
    (h : DataW.trod enc Tryd.prog w base spare held fuel 62 cs = some (Rows.laid_gaoler_report_words, q)) : ∀ i, i < 4 → cs[i]? = some (.string ⟨(wordsL.getD i []).toArray⟩) := by
  obtain ⟨xs, m, _, e, hcl, hxl, hg⟩ := DataW.trod_array Tryd.underlying62 h
  have hl : cs.length = 4 := hcl.trans cells62
  have hmap : xs.map (·.1) = (wordsL.map (fun l => .lit (.string l)) : List (DataW H)) := by
    have := congrArg Prod.fst e
    simp only [Rows.laid_gaoler_report_words, DataW.agg.injEq] at this
    rw [← this]
    rfl
  intro i hi
  have h1 := hg i hi
  rw [cells9, Nat.mul_one] at h1
  obtain ⟨x, hx⟩ : ∃ x, xs[i]? = some x := ⟨xs[i]'(by omega), List.getElem?_eq_getElem (by omega)⟩
  rw [hx] at h1
  have h2 : (xs.map (·.1))[i]? = some x.1 := by rw [List.getElem?_map, hx]; rfl
  rw [hmap, List.getElem?_map] at h2
  obtain ⟨s, es, ex, _⟩ := DataW.trod_string Tryd.underlying9 h1
  have hn : wordsL.length = 4 := rfl
  rw [List.getElem?_eq_getElem (by omega)] at h2
  rw [ex] at h2
  simp only [Option.map_some, Option.some.injEq, DataW.lit.injEq, Lit.string.injEq] at h2
  have hc : cs[i]? = some (.string s) := by
    have := congrArg (·[0]?) es
    simpa [List.getElem?_take, List.getElem?_drop] using this
  rw [hc, List.getD_eq_getElem?_getD, List.getElem?_eq_getElem (by omega), Option.getD_some, h2]
theorem star : "*" ++ "errors.errorString" = "*errors.errorString" := by decide
theorem row135 (u : TypeId) (h : Tryd.prog.typeName? 3 u = some "*errors.errorString") : u = 135 :=
  typeName_ptr_named (nm := "errors.errorString") (by rw [star]; kernel_rfl) (by kernel_rfl) (by decide) u (by rw [star]; exact h)
theorem pow_laid {H : Type} : (Rows.laid_internal_strconv_uint64pow10 : DataW H) = Lib.tabData .u64 Lib.pow10Tab := by rfl
set_option maxRecDepth 100000 in
/-- From what the row lists to what the walks ask. -/
theorem env_of_laid {W : World} (h : laidMet Tryd.prog [("math/bits.deBruijn32tab", Rows.laid_math_bits_deBruijn32tab), ("math/bits.deBruijn64tab", Rows.laid_math_bits_deBruijn64tab), ("internal/strconv.uint64pow10", Rows.laid_internal_strconv_uint64pow10), ("unicode/utf8.acceptRanges", Rows.laid_unicode_utf8_acceptRanges),
    ("strconv.ErrRange", Rows.laid_strconv_ErrRange), ("strconv.ErrSyntax", Rows.laid_strconv_ErrSyntax), ("gaoler/report.words", Rows.laid_gaoler_report_words), ("unicode/utf8.first", Rows.laid_unicode_utf8_first)] W) (hS : W.ShapedOpen Tryd.prog) : Env W := by
  have t1 := h.tail
  have t2 := t1.tail
  have hW : Lib.TabIs Tryd.prog W "internal/strconv.uint64pow10" .u64 Lib.pow10Tab := by
    rw [pow_laid] at t2
    exact Lib.tabIs_of_head gPw gPwT Tryd.underlying120 Tryd.underlying47 cells47 cells120 t2
  have t4 := t2.tail.tail
  have t5 := t4.tail
  have t6 := t5.tail
  obtain ⟨a1, s1, hER, _⟩ := laid_sentinel t4 gER gERT Tryd.underlying81 row135 Tryd.underlying135 Tryd.underlying137 rfl rfl Tryd.underlying9 cells137 cells9
  obtain ⟨a2, s2, hES, _⟩ := laid_sentinel t5 gES gEST Tryd.underlying81 row135 Tryd.underlying135 Tryd.underlying137 rfl rfl Tryd.underlying9 cells137 cells9
  obtain ⟨ps2, ⟨g2, u2, ns, fuel2, p2, q2, hg2, ht2, hvar2, hd2, _, _⟩, _⟩ := t6
  obtain rfl := Option.some.inj (gWd.symm.trans hg2)
  obtain rfl := Option.some.inj (gWdT.symm.trans ht2)
  have hns := words_cells hd2
  obtain ⟨ps3, ⟨g3, u3, ns3, fuel3, p3, q3, hg3, ht3, hvar3, hd3, _, _⟩, _⟩ := t1
  have hs9 : 9 ≤ W.heap.size := var_lt hvar3 gB64
  refine ⟨fun i hi => ?_, hW, ⟨_, by have h0 := World.var?_cell gES hES 0; simpa using h0, .inr ⟨_, _, rfl⟩⟩, ⟨_, by have h0 := World.var?_cell gER hER 0; simpa using h0, .inr ⟨_, _, rfl⟩⟩,
    Go.Proofs.cell_of_shapedOpen_int (zero := #[.int .i64 0]) (t := 3) hS (of_decide_eq_true (by kernel_rfl)) (by kernel_rfl) rfl (by kernel_rfl) (by kernel_rfl) Tryd.underlying3, hs9⟩
  rw [World.var?_cell gWd hvar2 i]
  have := hns i hi
  simpa using this
theorem own : ownKnob Tryd.prog.godebug = none := by kernel_rfl
theorem laidOut : laidOutB Tryd.prog = true := by kernel_rfl
/-- The cells of a datum. -/
def dcells : Nat → DataW Unit → List Value
  | 0, _ => []
  | _ + 1, .lit (.int k z) => [.int k z]
  | _ + 1, .lit (.bool b) => [.bool b]
  | _ + 1, .lit (.string l) => [.string ⟨l.toArray⟩]
  | n + 1, .agg l => l.flatMap (dcells n)
  | _, _ => []
/-- So many blocks has the settled world. -/
noncomputable def low : Nat := (World.holding Tryd.prog default ⟨#[], #[], []⟩).heap.size
def putCells (cs : List Value) : Obj → Obj
  | .cells _ t frozen => .cells cs.toArray t frozen
  | o => o
/-- A world in which the listed variables hold what their initialisers lay. -/
noncomputable def laidWorld (os : Os) : World :=
  let w0 := World.holding Tryd.prog os ⟨#[.cells #[.string ⟨#[118, 97, 108, 117, 101, 32, 111, 117, 116, 32, 111, 102, 32, 114, 97, 110, 103, 101]⟩] 137, .cells #[.string ⟨#[105, 110, 118, 97, 108, 105, 100, 32, 115, 121, 110, 116, 97, 120]⟩] 137], #[], []⟩
  { w0 with heap := (((((((w0.heap.modify 0 (putCells (dcells 4 Rows.laid_gaoler_report_words))).modify 1 (putCells (dcells 4 Rows.laid_internal_strconv_uint64pow10))).modify 2 (putCells (dcells 4 Rows.laid_unicode_utf8_first))).modify 3 (putCells (dcells 4 Rows.laid_unicode_utf8_acceptRanges))).modify 5 (putCells [.iface 135 (.pointer (some ⟨low + 1, 0, none⟩))])).modify 6 (putCells [.iface 135 (.pointer (some ⟨low, 0, none⟩))])).modify 7 (putCells (dcells 4 Rows.laid_math_bits_deBruijn32tab))).modify 8 (putCells (dcells 4 Rows.laid_math_bits_deBruijn64tab)) }
/-- gaolerlaw28.ReportParseFormatted. -/
theorem law4 (cs ds : List Value) (u v : Vp) (l : List UInt8) (w : World) (hE : Env w) (hu : VC w cs u) (hv : VC w ds v) :
    Calls Tryd.prog 4 #[.agg cs.toArray, .agg ds.toArray, .string ⟨l.toArray⟩] w fun e w' => e = .returned (.bool true) ∧ Below w.heap.size w w' := by
  cases f1 : fewV u with
  | false => exact law4_out cs ds u v l w hE hu hv (.inl f1)
  | true =>
    cases f2 : fewV v with
    | false => exact law4_out cs ds u v l w hE hu hv (.inr (.inl ⟨f1, f2⟩))
    | true =>
      by_cases h3 : 2000 < l.length
      · exact law4_out cs ds u v l w hE hu hv (.inr (.inr ⟨f1, f2, h3⟩))
      · cases hf : fOk u with
        | true => exact law4_good cs ds u v l w hE hu hv f1 f2 (by omega) hf
        | false => exact law4_bad cs ds u v l w hE hu hv f1 f2 (by omega) hf
theorem law4s (cs ds : List Value) (u v : Vp) (s : ByteArray) (w : World) (hE : Env w) (hu : VC w cs u) (hv : VC w ds v) :
    Calls Tryd.prog 4 #[.agg cs.toArray, .agg ds.toArray, .string s] w fun e w' => e = .returned (.bool true) ∧ Below w.heap.size w w' := by
  have h := law4 cs ds u v s.data.toList w hE hu hv
  have e : (⟨s.data.toList.toArray⟩ : ByteArray) = s := by cases s; simp
  rw [e] at h
  exact h
/-- A virtual CPU of zeros, as a value and as a datum. -/
def zCpu : Value := .agg (List.replicate 29 (Value.int .u32 0) ++ [Value.slice none 0 0, Value.bool false, Value.int .i64 0, Value.slice none 0 0]).toArray
def zCore : Value := .agg (List.replicate 29 (Value.int .u32 0)).toArray
def dCore {H : Type} : DataW H := .agg [.agg (List.replicate 16 (.lit (.int .u32 0))), .lit (.int .u32 0), .agg (List.replicate 12 (.lit (.int .u32 0)))]
def dCpu {H : Type} : DataW H := .agg [dCore, .nil, .lit (.bool false), .lit (.int .i64 0), .nil]
end Go.Proofs.YtnfkimhhgflfjaaDoor.Rep
