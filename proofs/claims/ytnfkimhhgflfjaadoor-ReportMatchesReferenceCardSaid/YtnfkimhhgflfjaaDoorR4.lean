/- report.Format, walked. -/
import Derived.Test.YtnfkimhhgflfjaaDoorR3
import Derived.Deep.DeepCutAuto
namespace Go.Proofs.YtnfkimhhgflfjaaDoor.Rep
open Go Go.RowKit
set_option linter.unusedVariables false
set_option linter.unusedSimpArgs false
/-! ### report.Format -/
def howS (h : Bool) : List UInt8 := if h then [104, 97, 108, 116, 101, 100] else [114, 117, 110, 110, 105, 110, 103]
def headL (v : Vp) : List (List UInt8) := [[103, 117, 101, 115, 116], Lib.decDigits v.done.toNat, Lib.decDigits v.pc.toNat, howS v.halted, hexS v.out]
def evL (e : Ev) : List (List UInt8) := [wordsL.getD e.kind.toNat [], Lib.decDigits e.pos.toNat, Lib.decDigits e.time.toNat]
/-- The report of a virtual CPU. -/
def textL (v : Vp) : List UInt8 := lineS (headL v) ++ v.log.flatMap (fun e => lineS (evL e))
def most : Int := 1099511627776
def fOk (v : Vp) : Bool := vOk v && decide (v.done ≤ most)
def fmtS (v : Vp) : ByteArray := if fOk v = true then ⟨(textL v).toArray⟩ else .empty
def fmtE (v : Vp) : Int := if fOk v = true then 0 else 1
theorem dec_len (n : Nat) (h : n < 18446744073709551616) : (Lib.decDigits n).length ≤ 20 := by
  rw [Lib.decDigits_length]
  by_cases h0 : 1 ≤ n
  · have := Lib.numDigits_eq n h0 h; split at this <;> omega
  · obtain rfl : n = 0 := by omega
    have h1 := Lib.decDigits_length 0
    rw [Lib.decDigits_one (by omega)] at h1
    rw [← h1]
    simp
theorem hexS_len (l : List UInt8) : (hexS l).length ≤ 2 * l.length + 1 := by
  unfold hexS
  split
  · simp
  · rw [hexF_len]; omega
theorem lineS_five (a b c d e : List UInt8) : lineS [a, b, c, d, e] = a ++ (32 :: (b ++ (32 :: (c ++ (32 :: (d ++ (32 :: (e ++ [10])))))))) := by simp [lineS, Lib.join, List.intercalate]
theorem lineS_three (a b c : List UInt8) : lineS [a, b, c] = a ++ (32 :: (b ++ (32 :: (c ++ [10])))) := by simp [lineS, Lib.join, List.intercalate]
theorem join_five (a b c d e : List UInt8) : Lib.join [a, b, c, d, e] [32] = a ++ (32 :: (b ++ (32 :: (c ++ (32 :: (d ++ (32 :: e))))))) := by simp [Lib.join, List.intercalate]
theorem join_three (a b c : List UInt8) : Lib.join [a, b, c] [32] = a ++ (32 :: (b ++ (32 :: c))) := by simp [Lib.join, List.intercalate]
/-- report.line on fields that lie in a new block. -/
theorem line_new (xs : List (List UInt8)) (w : World) (hN : xs.length ≤ 1000) (hlen : (Lib.join xs [32]).length ≤ 100000000) :
    Calls Tryd.prog 17 #[.slice (some ⟨w.heap.size, 0, none⟩) xs.length xs.length] (w.alloc (.cells (xs.map (fun l => Value.string ⟨l.toArray⟩)).toArray 9)) fun e w' => e = .returned (.string ⟨(lineS xs).toArray⟩) ∧ Below (w.alloc (.cells (xs.map (fun l => Value.string ⟨l.toArray⟩)).toArray 9)).heap.size (w.alloc (.cells (xs.map (fun l => Value.string ⟨l.toArray⟩)).toArray 9)) w' :=
  line_any w.heap.size xs.length xs _ (fun j x hj => by
    rw [World.cell?_alloc_new]
    simp [List.getElem?_map, hj]) (by simp) hN (Nat.le_refl _) hlen
/-- What stands in a walk of report.Format: the box of the virtual CPU, what it reads. -/
structure FS (W : World) (v : Vp) (p : Option Addr) (c : Nat) (q : Option Addr) (d : Nat) (w : World) : Prop where
  below : Below W.heap.size W w
  lt : W.heap.size < w.heap.size
  env : Env w
  by' : Bytes w p v.out
  ev : Evs w q v.log
  cells : ∀ j u, (vcs v p c q d)[j]? = some u → w.cell? ⟨W.heap.size, j, none⟩ = some u
theorem FS.later {W : World} {v : Vp} {p : Option Addr} {c : Nat} {q : Option Addr} {d : Nat} {w w' : World} (h : FS W v p c q d w) (hb : Below w.heap.size w w') : FS W v p c q d w' :=
  ⟨h.below.trans (hb.mono h.below.size), Nat.lt_of_lt_of_le h.lt hb.size, h.env.later hb, h.by'.later hb, h.ev.later hb, fun j u hj => (hb.cell (p := ⟨W.heap.size, j, none⟩) h.lt).trans (h.cells j u hj)⟩
theorem FS.start {W : World} {v : Vp} {p : Option Addr} {c : Nat} {q : Option Addr} {d : Nat} (hE : Env W) (hp : Bytes W p v.out) (hq : Evs W q v.log) : FS W v p c q d (W.alloc (.cells (vcs v p c q d).toArray 30)) := by
  have hb : Below W.heap.size W (W.alloc (.cells (vcs v p c q d).toArray 30)) := (Below.refl _ W).alloc (Nat.le_refl _) _
  exact ⟨hb, by simp, hE.later hb, hp.later hb, hq.later hb, fun j u hj => by rw [World.cell?_alloc_new]; simpa using hj⟩
theorem FS.drew {W : World} {v : Vp} {p : Option Addr} {c : Nat} {q : Option Addr} {d : Nat} {w : World} (h : FS W v p c q d w) : FS W v p c q d w.drew := h.later (Below.refl _ _).drew
theorem FS.alloc {W : World} {v : Vp} {p : Option Addr} {c : Nat} {q : Option Addr} {d : Nat} {w : World} (h : FS W v p c q d w) (o : Obj) : FS W v p c q d (w.alloc o) := h.later ((Below.refl _ w).alloc (Nat.le_refl _) o)
theorem vldL_all {done : Int} : ∀ (l : List Ev) (last : Int), vldL done last l = true → ∀ e ∈ l, 1 ≤ e.kind ∧ e.kind ≤ 3 ∧ last < e.pos ∧ e.pos < done
  | [], _, _, e, he => by cases he
  | x :: l, last, h, e, he => by
    unfold vldL at h
    split at h
    · cases h
    · rename_i hn
      rcases List.mem_cons.1 he with rfl | he
      · omega
      · have := vldL_all l x.pos h e he
        omega
/-- The head region's cells. -/
def hS (W : World) (v : Vp) (p : Option Addr) (c : Nat) (q : Option Addr) (d : Nat) (dn pc : Nat) (w : World) : Prop :=
  w.cell? ⟨W.heap.size, 31, none⟩ = some (.int .i64 (dn : Int)) ∧ w.cell? ⟨W.heap.size, 16, none⟩ = some (.int .u32 (pc : Int)) ∧ w.cell? ⟨W.heap.size, 29, none⟩ = some (.slice p v.out.length c) ∧ Hid (FS W v p c q d w)
theorem FS.hs {W : World} {v : Vp} {p : Option Addr} {c : Nat} {q : Option Addr} {d : Nat} {dn pc : Nat} {w : World} (h : FS W v p c q d w) (hw : v.wf) (hd : v.done = (dn : Int)) (hp : v.pc = (pc : Int)) : hS W v p c q d dn pc w :=
  ⟨h.cells 31 _ (by rw [← hd]; exact vcs_end hw p c q d 2), h.cells 16 _ (by rw [← hp]; exact vcs_pc hw p c q d), h.cells 29 _ (vcs_end hw p c q d 0), h⟩
set_option maxRecDepth 100000 in
set_option maxHeartbeats 8000000 in
theorem format_bad (v : Vp) (p : Option Addr) (c : Nat) (q : Option Addr) (d : Nat) (W : World) (hE : Env W) (hw : v.wf) (hp : Bytes W p v.out) (hq : Evs W q v.log) (hl : v.log.length ≤ 1000000) (hb : fOk v = false) :
    Calls Tryd.prog 8 #[.agg (vcs v p c q d).toArray] W fun e w' => e = .returned (.tuple #[.string .empty, .int .i64 1]) ∧ Below W.heap.size W w' := by
  have F0 := Lib.hid (FS.start (c := c) (d := d) hE hp hq)
  have V := Lib.hid (fun w h => valid_any (vcs v p c q d) v w h hl)
  have hVC : Hid (∀ w, FS W v p c q d w → VC w (vcs v p c q d) v) := Lib.hid (fun w h => ⟨hw, p, c, q, d, rfl, h.by', h.ev⟩)
  have h31 : (vcs v p c q d)[31]? = some (.int .i64 v.done) := vcs_end hw p c q d 2
  have hlen := vcs_len hw p c q d
  have hcase : vOk v = false ∨ (vOk v = true ∧ (1099511627776 : Int) < v.done) := by
    unfold fOk at hb
    cases hv : vOk v with
    | false => exact .inl rfl
    | true =>
      rw [hv, Bool.true_and, decide_eq_false_iff_not] at hb
      exact .inr ⟨rfl, by unfold most at hb; omega⟩
  obtain ⟨dn, hdn⟩ : ∃ dn, v.done = dn := ⟨_, rfl⟩
  rw [hdn] at h31 hcase
  obtain ⟨ok, hok⟩ : ∃ ok, vOk v = ok := ⟨_, rfl⟩
  rw [hok] at V hcase
  obtain ⟨cs, hcs⟩ : ∃ cs, vcs v p c q d = cs := ⟨_, rfl⟩
  rw [hcs] at V h31 hlen hVC ⊢
  have F0' : Hid (FS W v p c q d (W.alloc (.cells cs.toArray 30))) := by rw [← hcs]; exact F0
  have hsz : (Tryd.prog.info? 30).map (·.size) = some cs.toArray.size := by rw [List.size_toArray, hlen]; exact size30
  clear hE hw hp hq hl hb hdn hok F0
  have hc31 : Hid (∀ w, FS W v p c q d w → w.cell? ⟨W.heap.size, 31, none⟩ = some (.int .i64 dn)) := Lib.hid (fun w h => h.cells 31 _ (by rw [hcs]; exact h31))
  clear hcs h31 hlen
  rcases hcase with rfl | ⟨rfl, h⟩
  all_goals
    go_enter Tryd.func8, Tryd.ntmps8
    go_wp2_with (refine wpList_load_row rfl 30 (.tmp 1) rfl W.heap.size rfl 30 cs.toArray (0, 0) _ (World.alloc_heap_new _ _) Tryd.underlying30 rfl hsz ?_)
    refine (V.out _ (hVC.out _ F0'.out)).mono ?_
    rintro e w1 ⟨rfl, hb⟩
    have F1 := Lib.hid (F0'.out.later hb)
    have c31 := hc31.out _ F1.out
    clear hb V
    go_wp2
    go_ret2
    exact ⟨rfl, F1.out.below⟩
end Go.Proofs.YtnfkimhhgflfjaaDoor.Rep
