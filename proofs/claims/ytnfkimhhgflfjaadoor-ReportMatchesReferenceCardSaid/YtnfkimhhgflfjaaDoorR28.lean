/- A virtual CPU handed in. -/
import Derived.Test.YtnfkimhhgflfjaaDoorR27
import Derived.Test.YtnfkimhhgflfjaaDoorCards
import Derived.Stop.LaidErr
import Derived.Deep.DeepHandedRow
import Derived.OpenShut
import Derived.Deep.Strs
import Derived.Deep.Slices
import Derived.ProofKit
import Derived.Lib.LaidTab
namespace Go.Proofs.YtnfkimhhgflfjaaDoor.Rep
open Go Go.RowKit Go.Shelf
set_option linter.unusedVariables false
set_option linter.unusedSimpArgs false
/-! ### A virtual CPU handed in -/
open Go.ChangeShapes Go.WideShapes Go.ChangeAt
theorem of_wf_u32 {x : Int} (h : (Lit.int .u32 x).wf = true) : w32 x := by
  simp [Lit.wf, IntKind.min, IntKind.max, IntKind.bits, IntKind.signed] at h
  unfold w32
  omega
theorem of_wf_u8 {x : Int} (h : (Lit.int .u8 x).wf = true) : 0 ≤ x ∧ x ≤ 255 := by
  simp [Lit.wf, IntKind.min, IntKind.max, IntKind.bits, IntKind.signed] at h
  omega
theorem of_wf_i64 {x : Int} (h : (Lit.int .i64 x).wf = true) : -9223372036854775808 ≤ x ∧ x ≤ 9223372036854775807 := by
  simp [Lit.wf, IntKind.min, IntKind.max, IntKind.bits, IntKind.signed] at h
  omega
theorem of_wf_u64 {x : Int} (h : (Lit.int .u64 x).wf = true) : 0 ≤ x ∧ x ≤ 18446744073709551615 := by
  simp [Lit.wf, IntKind.min, IntKind.max, IntKind.bits, IntKind.signed] at h
  omega
theorem at_one {l : List Value} {j : Nat} {a : Value} (h : (l.drop j).take 1 = [a]) : l[j]? = some a := by
  have : ((l.drop j).take 1)[0]? = some a := by rw [h]; rfl
  rw [List.getElem?_take_of_lt (by omega), List.getElem?_drop, Nat.add_zero] at this
  exact this
section
variable {H : Type} {enc : TypeId × Value → H} {w : World} {base : Nat} {spare : Nat → Bool} {held : Bool}
theorem cells5 : Tryd.prog.cellsOf 5 = 1 := by kernel_rfl
theorem cells3 : Tryd.prog.cellsOf 3 = 1 := by kernel_rfl
theorem cells4 : Tryd.prog.cellsOf 4 = 1 := by kernel_rfl
theorem cells26 : Tryd.prog.cellsOf 26 = 29 := by kernel_rfl
theorem cells27 : Tryd.prog.cellsOf 27 = 1 := by kernel_rfl
theorem cells28 : Tryd.prog.cellsOf 28 = 1 := by kernel_rfl
theorem cells30 : Tryd.prog.cellsOf 30 = 33 := by kernel_rfl
theorem cells47 : Tryd.prog.cellsOf 47 = 1 := by kernel_rfl
theorem cells49 : Tryd.prog.cellsOf 49 = 3 := by kernel_rfl
/-- A row of u32s. -/
theorem open_row {fuel : Nat} {l : List Value} {t n : Nat} {y : DataW H × List MemPlace} (hu : Tryd.prog.underlying t = some (.array n 22)) (h : DataW.trod enc Tryd.prog w base spare held fuel t l = some y) :
    ∀ i, i < n → ∃ z, l[i]? = some (.int .u32 z) ∧ w32 z := fun i hi => by
  obtain ⟨xs, m, _, _, _, hl, hg⟩ := DataW.trod_array hu h
  have h1 := hg i hi
  obtain ⟨x, hx⟩ : ∃ x, xs[i]? = some x := ⟨xs[i]'(by omega), List.getElem?_eq_getElem _⟩
  rw [hx, co22, Nat.mul_one] at h1
  obtain ⟨z, ez, _, wz⟩ := DataW.trod_int Tryd.underlying22 h1
  exact ⟨z, at_one ez, of_wf_u32 wz⟩
/-- The cells of a core. -/
theorem open_core {fuel : Nat} {l : List Value} {y : DataW H × List MemPlace} (h : DataW.trod enc Tryd.prog w base spare held fuel 26 l = some y) : ∀ j, j < 29 → ∃ z, l[j]? = some (.int .u32 z) ∧ w32 z := by
  obtain ⟨xs, n, _, _, hcl, hlen, hg⟩ := DataW.trod_struct Tryd.underlying26 h
  have hx : xs.length = 3 := hlen
  obtain ⟨y0, y1, y2, rfl⟩ : ∃ y0 y1 y2, xs = [y0, y1, y2] := by
    match xs, hx with
    | [y0, y1, y2], _ => exact ⟨y0, y1, y2, rfl⟩
  have g0 : DataW.trod enc Tryd.prog w base spare held n 23 ((l.drop 0).take (Tryd.prog.cellsOf 23)) = some y0 := hg 0 _ rfl
  have g1 : DataW.trod enc Tryd.prog w base spare held n 22 ((l.drop 16).take (Tryd.prog.cellsOf 22)) = some y1 := hg 1 _ rfl
  have g2 : DataW.trod enc Tryd.prog w base spare held n 24 ((l.drop 17).take (Tryd.prog.cellsOf 24)) = some y2 := hg 2 _ rfl
  rw [co23] at g0
  rw [co22] at g1
  rw [co24] at g2
  have r0 := open_row Tryd.underlying23 g0
  have r2 := open_row Tryd.underlying24 g2
  obtain ⟨z1, e1, _, w1⟩ := DataW.trod_int Tryd.underlying22 g1
  have e1 := at_one e1
  intro j hj
  rcases Nat.lt_or_ge j 16 with h1 | h1
  · obtain ⟨z, hz, hw⟩ := r0 j h1
    rw [List.getElem?_take_of_lt h1, List.getElem?_drop, Nat.zero_add] at hz
    exact ⟨z, hz, hw⟩
  · rcases Nat.lt_or_ge 16 j with h2 | h2
    · obtain ⟨z, hz, hw⟩ := r2 (j - 17) (by omega)
      rw [List.getElem?_take_of_lt (by omega), List.getElem?_drop, show 17 + (j - 17) = j by omega] at hz
      exact ⟨z, hz, hw⟩
    · obtain rfl : j = 16 := by omega
      exact ⟨z1, e1, of_wf_u32 w1⟩
/-- A slice of bytes. -/
theorem open_bytes {fuel : Nat} {l : List Value} {j : Nat} {y : DataW H × List MemPlace} (h : DataW.trod enc Tryd.prog w base spare held fuel 27 ((l.drop j).take 1) = some y) : ∃ p c bs, l[j]? = some (.slice p (bs : List UInt8).length c) ∧ Bytes w p bs := by
  rcases Go.Deep.open_slice1 Tryd.underlying27 cells5 h with ⟨h1, _⟩ | ⟨a, len, cap, m, n, V, D, Pl, h1, _, hl, hm, hmm, _, hx⟩
  · exact ⟨none, 0, [], at_one h1, fun k c hk => by cases hk⟩
  · have hlm : len ≤ m := by rw [hmm]; split <;> omega
    have hV : ∀ i, i < len → ∃ x : UInt8, w.cell? (a.add i) = some (.int .u8 (x.toNat : Int)) := fun i hi => by
      obtain ⟨hc, ht⟩ := hx i (by omega)
      obtain ⟨z, ez, _, wz⟩ := DataW.trod_int Tryd.underlying5 ht
      obtain ⟨b0, b1⟩ := of_wf_u8 wz
      have ev : V i = .int .u8 z := by simpa using ez
      refine ⟨UInt8.ofNat z.toNat, ?_⟩
      rw [hc, ev, UInt8.toNat_ofNat']
      congr 2
      omega
    obtain ⟨f, hf⟩ := Go.Deep.choose_lt hV
    refine ⟨some a, cap, (List.range len).map f, by rw [List.length_map, List.length_range]; exact at_one h1, fun k x hk => ?_⟩
    have hkl : k < len := by
      have := (List.getElem?_eq_some_iff.1 hk).1
      simpa using this
    rw [List.getElem?_map, List.getElem?_range hkl] at hk
    have hk : f k = x := by simpa using hk
    have hc := hf k hkl
    rw [hk] at hc
    exact ⟨a, rfl, World.block_lt_of_cell? w _ hc, hc⟩
instance : Inhabited Ev := ⟨⟨0, 0, 0⟩⟩
/-- A log. -/
theorem open_log {fuel : Nat} {l : List Value} {j : Nat} {y : DataW H × List MemPlace} (h : DataW.trod enc Tryd.prog w base spare held fuel 28 ((l.drop j).take 1) = some y) : ∃ q d es, l[j]? = some (.slice q (es : List Ev).length d) ∧ Evs w q es ∧ ∀ e ∈ es, e.wf := by
  rcases Go.Deep.open_slice Tryd.underlying28 h with ⟨h1, _⟩ | ⟨a, len, cap, m, n, D, Pl, h1, _, hl, hm, hmm, _, hx⟩
  · exact ⟨none, 0, [], at_one h1, fun k c hk => (by cases hk), fun e he => (by cases he)⟩
  · have hlm : len ≤ m := by rw [hmm]; split <;> omega
    have hV : ∀ i, i < len → ∃ e : Ev, e.wf ∧ ∀ j u, (ecl e)[j]? = some u → w.cell? ((a.add (i * 3)).add j) = some u := fun i hi => by
      obtain ⟨cs', hc, ht⟩ := hx i (by omega)
      rw [cells49] at hc
      obtain ⟨_, hcl, hcc⟩ := World.cells?_some hc
      obtain ⟨xs, n', _, _, _, hlen, hg⟩ := DataW.trod_struct Tryd.underlying49 ht
      have hx3 : xs.length = 3 := hlen
      obtain ⟨y0, y1, y2, rfl⟩ : ∃ y0 y1 y2, xs = [y0, y1, y2] := by
        match xs, hx3 with
        | [y0, y1, y2], _ => exact ⟨y0, y1, y2, rfl⟩
      have g0 : DataW.trod enc Tryd.prog w base spare held n' 3 ((cs'.drop 0).take (Tryd.prog.cellsOf 3)) = some y0 := hg 0 _ rfl
      have g1 : DataW.trod enc Tryd.prog w base spare held n' 3 ((cs'.drop 1).take (Tryd.prog.cellsOf 3)) = some y1 := hg 1 _ rfl
      have g2 : DataW.trod enc Tryd.prog w base spare held n' 47 ((cs'.drop 2).take (Tryd.prog.cellsOf 47)) = some y2 := hg 2 _ rfl
      rw [cells3] at g0 g1
      rw [cells47] at g2
      obtain ⟨z0, e0, _, w0⟩ := DataW.trod_int Tryd.underlying3 g0
      obtain ⟨z1, e1, _, w1⟩ := DataW.trod_int Tryd.underlying3 g1
      obtain ⟨z2, e2, _, w2⟩ := DataW.trod_int Tryd.underlying47 g2
      have e0 := at_one e0
      have e1 := at_one e1
      have e2 := at_one e2
      refine ⟨⟨z0, z1, z2⟩, ⟨of_wf_i64 w0, of_wf_i64 w1, (of_wf_u64 w2).1, (of_wf_u64 w2).2⟩, fun j u hj => ?_⟩
      match j, hj with
      | 0, hj => rw [hcc 0 (by omega), e0]; exact hj
      | 1, hj => rw [hcc 1 (by omega), e1]; exact hj
      | 2, hj => rw [hcc 2 (by omega), e2]; exact hj
      | k + 3, hj => simp [ecl] at hj
    obtain ⟨f, hf⟩ := Go.Deep.choose_lt hV
    refine ⟨some a, cap, (List.range len).map f, by rw [List.length_map, List.length_range]; exact at_one h1, fun k x hk => ?_, fun e he => ?_⟩
    · have hkl : k < len := by
        have := (List.getElem?_eq_some_iff.1 hk).1
        simpa using this
      rw [List.getElem?_map, List.getElem?_range hkl] at hk
      have hk : f k = x := by simpa using hk
      have hc := (hf k hkl).2
      rw [hk] at hc
      have h0 := hc 0 (.int .i64 x.kind) rfl
      have := World.block_lt_of_cell? w _ h0
      rw [add_block, add_block] at this
      exact ⟨a, rfl, this, hc⟩
    · obtain ⟨k, hk, rfl⟩ := List.mem_map.1 he
      exact (hf k (List.mem_range.1 hk)).1
set_option maxRecDepth 100000 in
/-- An argument that is a virtual CPU. -/
theorem open_vcpu {b0 : Nat} {v : Value} {d : DataW H} {p : List MemPlace} (hv : Value.okWide Tryd.prog w .any b0 30 v) (h : DataW.Trod enc Tryd.prog w base spare held 30 v d p) :
    ∃ (cs : List Value) (x : Vp), v = .agg cs.toArray ∧ VC w cs x := by
  obtain ⟨cs, rfl, hsz⟩ := okWide_struct Tryd.underlying30 hv
  obtain ⟨l⟩ := cs
  have hl : l.length = 33 := hsz.trans cells30
  obtain ⟨fuel, hf⟩ := h
  have hf : DataW.trod enc Tryd.prog w base spare held fuel 30 l = some (d, p) := by simpa [Value.cells] using hf
  obtain ⟨xs, n, _, _, _, hlen, hg⟩ := DataW.trod_struct Tryd.underlying30 hf
  have hx : xs.length = 5 := hlen
  obtain ⟨y0, y1, y2, y3, y4, rfl⟩ : ∃ y0 y1 y2 y3 y4, xs = [y0, y1, y2, y3, y4] := by
    match xs, hx with
    | [y0, y1, y2, y3, y4], _ => exact ⟨y0, y1, y2, y3, y4, rfl⟩
  have g0 : DataW.trod enc Tryd.prog w base spare held n 26 ((l.drop 0).take (Tryd.prog.cellsOf 26)) = some y0 := hg 0 _ rfl
  have g1 : DataW.trod enc Tryd.prog w base spare held n 27 ((l.drop 29).take (Tryd.prog.cellsOf 27)) = some y1 := hg 1 _ rfl
  have g2 : DataW.trod enc Tryd.prog w base spare held n 4 ((l.drop 30).take (Tryd.prog.cellsOf 4)) = some y2 := hg 2 _ rfl
  have g3 : DataW.trod enc Tryd.prog w base spare held n 3 ((l.drop 31).take (Tryd.prog.cellsOf 3)) = some y3 := hg 3 _ rfl
  have g4 : DataW.trod enc Tryd.prog w base spare held n 28 ((l.drop 32).take (Tryd.prog.cellsOf 28)) = some y4 := hg 4 _ rfl
  rw [cells26] at g0
  rw [cells27] at g1
  rw [cells4] at g2
  rw [cells3] at g3
  rw [cells28] at g4
  obtain ⟨b, eb, _⟩ := DataW.trod_bool Tryd.underlying4 g2
  obtain ⟨dn, ed, _, wd⟩ := DataW.trod_int Tryd.underlying3 g3
  have eb := at_one eb
  have ed := at_one ed
  obtain ⟨pp, c, bs, ho, hby⟩ := open_bytes g1
  obtain ⟨q, dd, es, hlg, hev, hwf⟩ := open_log g4
  have hc : ∀ j, j < 29 → ∃ z, l[j]? = some (.int .u32 z) ∧ w32 z := fun j hj => by
    obtain ⟨z, hz, hw⟩ := open_core g0 j hj
    rw [List.getElem?_take_of_lt hj, List.getElem?_drop, Nat.zero_add] at hz
    exact ⟨z, hz, hw⟩
  obtain ⟨f, hf2⟩ := Go.Deep.choose_lt hc
  obtain ⟨x, hxx⟩ : ∃ x : Vp, x = { regs := (List.range 16).map f, pc := f 16, csr := (List.range 12).map (fun i => f (17 + i)), out := bs, halted := b, done := dn, log := es } := ⟨_, rfl⟩
  have wf : x.wf := by
    rw [hxx]
    refine ⟨by simp, by simp, (hf2 16 (by omega)).2, of_wf_i64 wd, hwf, fun z hz => ?_, fun z hz => ?_⟩
    · obtain ⟨i, hi, rfl⟩ := List.mem_map.1 hz
      exact (hf2 i (by have := List.mem_range.1 hi; omega)).2
    · obtain ⟨i, hi, rfl⟩ := List.mem_map.1 hz
      exact (hf2 (17 + i) (by have := List.mem_range.1 hi; omega)).2
  refine ⟨l, x, rfl, wf, pp, c, q, dd, ?_, by rw [hxx]; exact hby, by rw [hxx]; exact hev⟩
  apply List.ext_getElem?
  intro j
  have hvl := vcs_len wf pp c q dd
  rcases Nat.lt_or_ge j 33 with hj | hj
  · rcases Nat.lt_or_ge j 16 with h1 | h1
    · rw [(hf2 j (by omega)).1, vcs_reg wf _ _ _ _ j h1, hxx]
      simp [List.getD, h1]
    · rcases Nat.lt_or_ge j 29 with h2 | h2
      · rcases Nat.lt_or_ge 16 j with h3 | h3
        · rw [(hf2 j h2).1, show j = 17 + (j - 17) by omega, vcs_csr wf _ _ _ _ (j - 17) (by omega), hxx]
          have : j - 17 < 12 := by omega
          simp [List.getD, this]
        · obtain rfl : j = 16 := by omega
          rw [(hf2 16 (by omega)).1, vcs_pc wf, hxx]
      · have he := vcs_end wf pp c q dd (j - 29)
        rw [show 29 + (j - 29) = j by omega] at he
        rw [he, hxx]
        match hk : j - 29 with
        | 0 => obtain rfl : j = 29 := by omega
               exact ho
        | 1 => obtain rfl : j = 30 := by omega
               exact eb
        | 2 => obtain rfl : j = 31 := by omega
               exact ed
        | 3 => obtain rfl : j = 32 := by omega
               exact hlg
        | k + 4 => omega
  · rw [List.getElem?_eq_none (by omega), List.getElem?_eq_none (by omega)]
end
end Go.Proofs.YtnfkimhhgflfjaaDoor.Rep
