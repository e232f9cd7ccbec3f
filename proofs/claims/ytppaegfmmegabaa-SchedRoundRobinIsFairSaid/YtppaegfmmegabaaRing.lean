/- gaolerref24.Ring, walked: a slice of its own with as many guests as flags. -/
import Derived.Test.YtppaegfmmegabaaNext
import Derived.Laws.AppendOwn
import Derived.Maps.AppendAt
namespace Go.Proofs.Ytppaegfmmegabaa.Sched
open Go Go.RowKit Go.Shelf
set_option linter.unusedVariables false
set_option linter.unusedSimpArgs false
/-- The cells of a guest of which nothing is said but whether it is halted. -/
def vcl (h : Bool) : List Value := [.int .u32 0, .int .u32 0, .int .u32 0, .int .u32 0, .int .u32 0, .int .u32 0, .int .u32 0, .int .u32 0, .int .u32 0, .int .u32 0, .int .u32 0, .int .u32 0, .int .u32 0, .int .u32 0, .int .u32 0, .int .u32 0, .int .u32 0, .int .u32 0, .int .u32 0, .int .u32 0, .int .u32 0, .int .u32 0, .int .u32 0, .int .u32 0, .int .u32 0, .int .u32 0, .int .u32 0, .int .u32 0, .int .u32 0, .slice none 0 0, .bool h, .int .i64 0, .slice none 0 0]
theorem info44 : (Try.prog.info? 44).map (fun i => (i.zero, i.size, i.bytes)) = some (some (.agg (vcl false).toArray), 33, 184) := by kernel_rfl
theorem info3 : (Try.prog.info? 3).map (fun i => (i.zero, i.size, i.bytes)) = some (some (.int .i64 0), 1, 8) := by kernel_rfl
theorem vcl_one (h : Bool) : ∀ u ∈ vcl h, u.oneCell' = true := by
  intro u hu
  have : (vcl h).all (fun u => u.oneCell') = true := by cases h <;> rfl
  exact List.all_eq_true.1 this u hu
theorem vcl_len (h : Bool) : (vcl h).length = 33 := rfl
theorem cells_new (w : World) (l : List Value) (t : TypeId) : ∀ j u, l[j]? = some u → (w.alloc (.cells l.toArray t)).cell? ((⟨w.heap.size, 0, none⟩ : Addr).add j) = some u := by
  intro j u hj
  have : (⟨w.heap.size, 0, none⟩ : Addr).add j = ⟨w.heap.size, j, none⟩ := by
    unfold Addr.add
    split <;> simp_all
  rw [this, World.cell?_alloc_new]
  simpa using hj
/-- The flags of a slice of bool. -/
def Bs (W : World) (A : Option Addr) (hs : List Bool) : Prop := ∀ k, k < hs.length → ∃ a, A = some a ∧ a.block < W.heap.size ∧ W.cell? (a.add k) = some (.bool (hs[k]?.getD false))
theorem Bs.below {n₀ : Nat} {w W : World} {A : Option Addr} {hs : List Bool} (h : Bs w A hs) (hb : Below n₀ w W) (hn : n₀ = w.heap.size) : Bs W A hs := by
  intro k hk
  obtain ⟨a, rfl, hl, hc⟩ := h k hk
  refine ⟨a, rfl, Nat.lt_of_lt_of_le hl hb.size, ?_⟩
  rw [← hc]
  exact hb.cell (p := a.add k) (by rw [hn]; unfold Addr.add; split <;> exact hl)
theorem flat_take (hs : List Bool) {k : Nat} (hk : k < hs.length) : (hs.take (k + 1)).flatMap vcl = (hs.take k).flatMap vcl ++ vcl (hs[k]?.getD false) := by
  rw [List.take_add_one, List.getElem?_eq_getElem hk, List.flatMap_append]
  simp
set_option maxRecDepth 100000 in
set_option maxHeartbeats 4000000 in
/-- gaolerref24.Ring: a slice of its own, of as many guests as flags. -/
theorem ring_makes (A : Option Addr) (c : Nat) (hs : List Bool) (w : World) (hlen : hs.length ≤ 1000) (hb : Bs w A hs) :
    Calls Try.prog 8 #[.slice A hs.length c] w fun e w' => ∃ v, e = .returned v ∧ w'.ownsRow w.heap.size 44 33 v hs.length (hs.flatMap vcl) ∧ Below w.heap.size w w' := by
  obtain ⟨i0, hi, hz0, hz1, hz2⟩ := info_parts info44
  go_enter Try.func8, Try.ntmps8
  go_wp2
  go_loopw [3, 4] (fun v i wr => ∃ k : Nat, k ≤ hs.length ∧ i = .int .i64 k ∧ wr.ownsRow w.heap.size 44 33 v k ((hs.take k).flatMap vcl) ∧ Below w.heap.size w wr) (fun _ i _ => hs.length - (intOf i).toNat)
  case atStart => exact ⟨0, by omega, rfl, by simpa using World.ownsRow_nil w w.heap.size 44 33, Below.refl _ _⟩
  case round =>
    obtain ⟨k, hk, rfl, hown, hbr⟩ := hrel
    by_cases hlt : k < hs.length
    · obtain ⟨a, rfl, hal, hac⟩ := hb.below hbr rfl k hlt
      obtain ⟨f, hf⟩ : ∃ f, hs[k]?.getD false = f := ⟨_, rfl⟩
      rw [hf] at hac
      have z1 : w.heap.size ≤ wr.heap.size := hbr.size
      go_wp2_with (first
        | (at_builtin; refine wpList_append_own _ rfl _ _ 24 rfl w.heap.size 44 i0 (.agg (vcl false).toArray) 33 184 Try.underlying24 hi hz0 hz1 hz2 rfl (by decide) _ _ _ rfl (hown.alloc _) ⟨wr.heap.size, 0, none⟩ 1 1 (vcl f) rfl rfl (cells_new _ (vcl f) _) (vcl_one f) (by unfold maxLen; omega) (by omega) (by simp; omega) ?_; intro v' w3 hown' hgrow3 hnil3
           have hbw3 : Below w.heap.size w w3 := Below.grown (hbr.alloc z1 _) hgrow3 (by simp; omega) (fun j hj => (hown.lt _ hj).1)
           have X : Hid (w3.ownsRow w.heap.size 44 33 v' (k + 1) ((hs.take (k + 1)).flatMap vcl) ∧ Below w.heap.size w w3) := ⟨by rw [flat_take hs hlt, hf]; exact hown', hbw3⟩
           clear hown' hgrow3 hnil3 hbw3))
      all_goals
        go_roundw
        case rel => exact ⟨k + 1, by omega, by go_num, X.out.1, X.out.2⟩
        case measure => simp [intOf]; omega
    · obtain rfl : k = hs.length := by omega
      rw [List.take_length] at hown
      go_wp2
      go_ret
      exact ⟨_, rfl, hown, hbr⟩
end Go.Proofs.Ytppaegfmmegabaa.Sched
