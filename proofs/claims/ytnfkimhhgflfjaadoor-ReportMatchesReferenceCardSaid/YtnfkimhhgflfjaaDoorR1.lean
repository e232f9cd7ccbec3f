/- report.number and report.line, walked. -/
import Derived.Test.YtnfkimhhgflfjaaDoorShelf
import Derived.WalkKit
import Derived.Deep.RegionWith
import Derived.Lib.Hide
import Derived.Outline
import Derived.BigFrame
import Derived.Below
import Derived.BigQuiet
import Derived.Deep.QuietTactic
import Derived.Deep.AppendLies
import Derived.Deep.RegionHeld3
import Derived.Deep.MidRow
import Derived.Deep.WholeRow
import Derived.Laws.AppendOwn
import Derived.Maps.AppendAt
import Derived.RangeFuncBox
import Derived.Laws.BytesString
import Derived.Lib.AppendIntMem
import Derived.OwnWalk
import Derived.Laws.Rows
import Derived.Laws.Slices
namespace Go.Proofs.YtnfkimhhgflfjaaDoor.Rep
open Go Go.RowKit
set_option linter.unusedVariables false
set_option linter.unusedSimpArgs false
/-! ### Small words -/
theorem bdrew {B : Nat} {a w : World} (h : Below B a w) (n : Nat) : Below B a (w.drewN n) := ⟨h.os, h.tape, h.output, h.size, h.block⟩
theorem some_ne {a b : Nat} (h : a ≠ b) : (some a : Option Nat) ≠ some b := fun e => h (Option.some.inj e)
theorem cells_new3 (w : World) (l : List Value) (t : TypeId) : ∀ j u, l[j]? = some u → (w.alloc (.cells l.toArray t)).cell? ((⟨w.heap.size, 0, none⟩ : Addr).add j) = some u := by
  intro j u hj
  have : (⟨w.heap.size, 0, none⟩ : Addr).add j = ⟨w.heap.size, j, none⟩ := by
    unfold Addr.add
    split <;> simp_all
  rw [this, World.cell?_alloc_new]
  simpa using hj
theorem ba_get (l : List UInt8) (k : Nat) (c : UInt8) (h : l[k]? = some c) : (⟨l.toArray⟩ : ByteArray)[k]? = some c := by
  obtain ⟨hk, rfl⟩ := List.getElem?_eq_some_iff.1 h
  rw [getElem?_pos (⟨l.toArray⟩ : ByteArray) k (show k < (⟨l.toArray⟩ : ByteArray).size from hk)]
  rfl
theorem cat_bytes (a b : List UInt8) : (⟨a.toArray⟩ : ByteArray) ++ (⟨b.toArray⟩ : ByteArray) = ⟨(a ++ b).toArray⟩ := by
  apply ByteArray.ext
  show ((⟨a.toArray⟩ : ByteArray) ++ (⟨b.toArray⟩ : ByteArray)).data = _
  rw [ByteArray.data_append]
  simp
theorem grown_of_below {W W' : World} (h : Below W.heap.size W W') : W.grownBy W' none := ⟨h.os, h.tape, h.output, h.size, fun k hk _ => h.block k hk⟩
theorem below_grow_at (w : World) (k : Nat) (os : Array Obj) : Below w.heap.size w (Go.Sort.grow (w.drewN k) os) := Lib.below_grow w.heap.size w (Nat.le_refl _) k os
/-! ### What lies there from the start -/
def wordsL : List (List UInt8) := [[], [116, 105, 109, 101, 114], [116, 105, 109, 101], [116, 105, 109, 101, 104]]
/-- The tables and the library's variables. -/
structure Env (W : World) : Prop where
  words : ∀ i, i < 4 → W.cell? ⟨0, i, none⟩ = some (.string ⟨(wordsL.getD i []).toArray⟩)
  pw : Lib.TabIs Tryd.prog W "internal/strconv.uint64pow10" .u64 Lib.pow10Tab
  es : ∃ ev, W.cell? ⟨5, 0, none⟩ = some ev ∧ (ev = .nilIface ∨ ∃ te pe, ev = .iface te pe)
  er : ∃ ev, W.cell? ⟨6, 0, none⟩ = some ev ∧ (ev = .nilIface ∨ ∃ te pe, ev = .iface te pe)
  ml : ∃ m, W.cell? ⟨4, 0, none⟩ = some (.int .i64 m)
  size : 9 ≤ W.heap.size
theorem pw_at : Tryd.prog.globalNamed "internal/strconv.uint64pow10" = some 1 := by kernel_rfl
theorem Env.below {W W' : World} {B : Nat} (h : Env W) (hb : Below B W W') (hB : 9 ≤ B) : Env W' := by
  obtain ⟨e1, h1, h1'⟩ := h.es
  obtain ⟨e2, h2, h2'⟩ := h.er
  obtain ⟨m, h3⟩ := h.ml
  refine ⟨fun i hi => (hb.cell (p := ⟨0, i, none⟩) (by show 0 < B; omega)).trans (h.words i hi), ?_, ⟨e1, (hb.cell (p := ⟨5, 0, none⟩) (by show 5 < B; omega)).trans h1, h1'⟩,
    ⟨e2, (hb.cell (p := ⟨6, 0, none⟩) (by show 6 < B; omega)).trans h2, h2'⟩, ⟨m, (hb.cell (p := ⟨4, 0, none⟩) (by show 4 < B; omega)).trans h3⟩, Nat.le_trans h.size hb.size⟩
  have hp := h.pw
  unfold Lib.TabIs World.var? at hp ⊢
  rw [pw_at] at hp ⊢
  simp only [Option.bind_some] at hp ⊢
  rw [hb.block 1 (by omega)]
  exact hp
theorem Env.later {W W' : World} (h : Env W) (hb : Below W.heap.size W W') : Env W' := h.below hb h.size
/-! ### report.number -/
set_option maxHeartbeats 6400000 in
set_option maxRecDepth 100000 in
theorem fmtu_big (u : Nat) (hu64 : u < 18446744073709551616) (h100 : 100 ≤ u) (w : World) (hE : Env w) :
    Calls Tryd.prog 45 #[.int .u64 u, .int .i64 10] w fun e w' => e = .returned (.string ⟨(Lib.decDigits u).toArray⟩) ∧ Below w.heap.size w w' := by
  have htab := hE.pw
  clear hE
  have hu1 : 1 ≤ u := by omega
  have hnd20 : Lib.nDigits u ≤ 20 := by have := Lib.numDigits_eq u hu1 hu64; split at this <;> omega
  have hb3 : Lib.nDigits u ≤ 24 := by omega
  have hal : Tryd.prog.arrayLen 106 = 24 := by kernel_rfl
  have hsl1 : ∀ W, (Instr.sliceAt 106 (.pointer (some ⟨w.heap.size, 0, none⟩)) none (some (.int .i64 (Lib.nDigits u : Int))) none).run Tryd.prog W = .ok (.slice (some ⟨w.heap.size, 0, none⟩) (Lib.nDigits u) 24) W := fun W => by
    rw [run_sliceAt_array_h W 106 ⟨w.heap.size, 0, none⟩ (by kernel_rfl) .i64 (Lib.nDigits u : Int) (by omega) (by rw [hal]; omega)]
    go_simp
  have hH0 := Lib.holds_zero0 w 106 (Lib.nDigits u) (by omega)
  have hfmt := Tryd.internal_strconv_formatBase10 w.heap.size 0 24 u (Array.replicate (Lib.nDigits u) 0) (w.alloc (.cells Lib.zeros24 106)) hH0 (by rw [Array.size_replicate]; exact Lib.lt_pow_nDigits u) hu64 (by rw [Array.size_replicate]; omega)
  rw [Array.size_replicate] at hfmt
  have HH0 := Lib.hid hH0
  clear hH0 hal
  go_enter Tryd.func45, Tryd.ntmps45
  go_wp2_with (first
    | (go_at_call 58; refine (Tryd.internal_strconv_numDigits u hu1 hu64 _ (Lib.tabIs_alloc htab _)).mono ?_; rintro e w' ⟨rfl, rfl⟩))
  refine hfmt.mono ?_
  rintro e w' ⟨rfl, k, v', dk, rfl, hF⟩
  have hcv : (convert 27 9 (.slice (some ⟨w.heap.size, 0, none⟩) (Lib.nDigits u) 24)).run Tryd.prog ((Go.Sort.putRow (fun (b : UInt8) => Value.int .u8 (b.toNat : Int)) (w.alloc (.cells Lib.zeros24 106)) w.heap.size 0 dk).drewN k) = .ok (.string ⟨(Lib.decDigits u).toArray⟩) ((Go.Sort.putRow (fun (b : UInt8) => Value.int .u8 (b.toNat : Int)) (w.alloc (.cells Lib.zeros24 106)) w.heap.size 0 dk).drewN k) := by
    have h := run_convert_bytes_back (P := Tryd.prog) ((Go.Sort.putRow (fun (b : UInt8) => Value.int .u8 (b.toNat : Int)) (w.alloc (.cells Lib.zeros24 106)) w.heap.size 0 dk).drewN k) 27 9 5 ⟨w.heap.size, 0, none⟩ 24 (Lib.decDigits u) Tryd.underlying27 Tryd.underlying5 Tryd.underlying9 (fun j hj => by
      rw [Lib.row_is_numeral hF j hj, Lib.add_plain, World.cell?_drewN]
      exact Go.Sort.cell?_putRow (fun (b : UInt8) => Value.int .u8 (b.toNat : Int)) _ w.heap.size 0 _ dk HH0.out (by rw [hF.size, Array.size_replicate]) j (by rw [hF.size]; rw [Lib.decDigits_length] at hj; exact hj))
    rw [Lib.decDigits_length] at h
    exact h
  go_wp2
  go_ret
  obtain ⟨os, eo⟩ := Lib.fin_at w (.cells Lib.zeros24 106) dk k 0
  refine ⟨rfl, ?_⟩
  rw [eo]
  exact below_grow_at w k os
set_option maxRecDepth 100000 in
theorem fmtu_small (u : Nat) (h100 : u < 100) (w : World) :
    Calls Tryd.prog 45 #[.int .u64 u, .int .i64 10] w fun e w' => e = .returned (.string ⟨(Lib.decDigits u).toArray⟩) ∧ w' = w := by
  have S := Tryd.internal_strconv_small u h100
  go_enter Tryd.func45, Tryd.ntmps45
  go_wp2_with (go_at_call 57; refine (S _).mono ?_; rintro e w' ⟨rfl, rfl⟩)
  go_ret
  exact ⟨rfl, rfl⟩
theorem fmtu_any (u : Nat) (hu64 : u < 18446744073709551616) (w : World) (hE : Env w) :
    Calls Tryd.prog 45 #[.int .u64 u, .int .i64 10] w fun e w' => e = .returned (.string ⟨(Lib.decDigits u).toArray⟩) ∧ Below w.heap.size w w' := by
  by_cases h : u < 100
  · refine (fmtu_small u h w).mono ?_
    rintro e w' ⟨rfl, rfl⟩
    exact ⟨rfl, Below.refl _ _⟩
  · exact fmtu_big u hu64 (by omega) w hE
theorem fmtu_pub (u : Nat) (hu64 : u < 18446744073709551616) (w : World) (hE : Env w) :
    Calls Tryd.prog 36 #[.int .u64 u, .int .i64 10] w fun e w' => e = .returned (.string ⟨(Lib.decDigits u).toArray⟩) ∧ Below w.heap.size w w' := by
  have S := fmtu_any u hu64 w hE
  clear hE
  go_enter Tryd.func36, Tryd.ntmps36
  go_wp2_with (go_at_call 45; refine S.mono ?_; rintro e w' ⟨rfl, hb⟩)
  go_ret
  exact ⟨rfl, hb⟩
/-- report.number. -/
theorem number_any (u : Nat) (hu64 : u < 18446744073709551616) (w : World) (hE : Env w) :
    Calls Tryd.prog 18 #[.int .u64 u] w fun e w' => e = .returned (.string ⟨(Lib.decDigits u).toArray⟩) ∧ Below w.heap.size w w' := by
  have S := fmtu_pub u hu64 w hE
  clear hE
  go_enter Tryd.func18, Tryd.ntmps18
  go_wp2_with (go_at_call 36; refine S.mono ?_; rintro e w' ⟨rfl, hb⟩)
  go_ret
  exact ⟨rfl, hb⟩
/-! ### report.line -/
/-- A line: the fields, joined by blanks, and its end. -/
def lineS (xs : List (List UInt8)) : List UInt8 := Lib.join xs [32] ++ [10]
theorem map_bytes (xs : List (List UInt8)) : (xs.map (fun l => (⟨l.toArray⟩ : ByteArray))).map (·.data.toList) = xs := by
  rw [List.map_map]
  conv => rhs; rw [← List.map_id xs]
  rfl
/-- report.line. -/
theorem line_any (bk c : Nat) (xs : List (List UInt8)) (w : World) (hcells : ∀ (j : Nat) x, xs[j]? = some x → w.cell? ⟨bk, j, none⟩ = some (.string ⟨x.toArray⟩)) (hbk : bk < w.heap.size) (hN : xs.length ≤ 1000) (hcap : xs.length ≤ c) (hlen : (Lib.join xs [32]).length ≤ 100000000) :
    Calls Tryd.prog 17 #[.slice (some ⟨bk, 0, none⟩) xs.length c] w fun e w' => e = .returned (.string ⟨(lineS xs).toArray⟩) ∧ Below w.heap.size w w' := by
  have J := Tryd.strings_Join bk 0 c (xs.map (fun l => (⟨l.toArray⟩ : ByteArray))) ⟨#[32]⟩ w (fun j x hj => by
    rw [List.getElem?_map] at hj
    cases hx : xs[j]? with
    | none => rw [hx] at hj; cases hj
    | some y =>
      rw [hx] at hj
      cases hj
      rw [Nat.zero_add]
      exact hcells j y hx) hbk (by rw [List.length_map]; omega) (by rw [List.length_map]; exact hcap) (by rw [map_bytes]; show (Lib.join xs [32]).length ≤ _; omega)
  rw [map_bytes, List.length_map, show (⟨#[32]⟩ : ByteArray).data.toList = [32] from rfl] at J
  have hres : (⟨(lineS xs).toArray⟩ : ByteArray) = ⟨(Lib.join xs [32]).toArray⟩ ++ ⟨#[10]⟩ := (cat_bytes _ [10]).symm
  rw [hres]
  have hsz : (⟨(Lib.join xs [32]).toArray⟩ : ByteArray).size ≤ 100000000 := hlen
  obtain ⟨X, hX⟩ : ∃ X : ByteArray, ⟨(Lib.join xs [32]).toArray⟩ = X := ⟨_, rfl⟩
  rw [hX] at J hsz ⊢
  have hcat : ¬ 9223372036854775807 < X.size + 1 := by omega
  clear hX hres hcells hlen
  go_enter Tryd.func17, Tryd.ntmps17
  go_wp2_with (go_at_call 35; refine J.mono ?_; rintro e w' ⟨rfl, hb⟩)
  go_ret
  exact ⟨rfl, hb⟩
end Go.Proofs.YtnfkimhhgflfjaaDoor.Rep
