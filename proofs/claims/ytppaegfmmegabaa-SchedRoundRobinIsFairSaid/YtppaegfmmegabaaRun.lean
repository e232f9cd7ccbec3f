/- sched.Runnable, walked: how many guests are not halted. -/
import Derived.Test.YtppaegfmmegabaaRing
import Derived.Deep.MidRow
import Derived.Deep.WholeRow
namespace Go.Proofs.Ytppaegfmmegabaa.Sched
open Go Go.RowKit Go.Shelf
set_option linter.unusedVariables false
set_option linter.unusedSimpArgs false
/-- What a reader needs of a slice of guests. -/
def Cs (W : World) (p : Option Addr) (hs : List Bool) : Prop := ∀ k, k < hs.length → ∃ b, p = some ⟨b, 0, none⟩ ∧ b < W.heap.size ∧ ∀ j, j < 33 → W.cell? ⟨b, k * 33 + j, none⟩ = (vcl (hs[k]?.getD false))[j]?
theorem Cs.below {n₀ : Nat} {w W : World} {p : Option Addr} {hs : List Bool} (h : Cs w p hs) (hb : Below n₀ w W) (hn : n₀ = w.heap.size) : Cs W p hs := by
  intro k hk
  obtain ⟨b, rfl, hl, hc⟩ := h k hk
  exact ⟨b, rfl, Nat.lt_of_lt_of_le hl hb.size, fun j hj => (hb.cell (p := ⟨b, k * 33 + j, none⟩) (by rw [hn]; exact hl)).trans (hc j hj)⟩
theorem Cs.flag {W : World} {p : Option Addr} {hs : List Bool} (h : Cs W p hs) : ∀ k, k < hs.length → ∃ b, p = some ⟨b, 0, none⟩ ∧ b < W.heap.size ∧ W.cell? ⟨b, k * 33 + 30, none⟩ = some (.bool (hs[k]?.getD false)) := fun k hk => by
  obtain ⟨b, rfl, hl, hc⟩ := h k hk
  exact ⟨b, rfl, hl, hc 30 (by omega)⟩
theorem flat_at (hs : List Bool) : ∀ k j, k < hs.length → j < 33 → (hs.flatMap vcl)[k * 33 + j]? = (vcl (hs[k]?.getD false))[j]? := by
  induction hs with
  | nil => intro k j hk; simp at hk
  | cons h t ih =>
    intro k j hk hj
    rw [List.flatMap_cons]
    cases k with
    | zero => rw [Nat.zero_mul, Nat.zero_add, List.getElem?_append_left (by rw [vcl_len]; exact hj)]; simp
    | succ k =>
      rw [List.getElem?_append_right (by rw [vcl_len]; omega), vcl_len, show (k + 1) * 33 + j - 33 = k * 33 + j by omega, ih k j (by simpa using hk) hj]
      simp
theorem rg_open {n₀ : Nat} {W : World} {v : Value} {hs : List Bool} (h : W.ownsRow n₀ 44 33 v hs.length (hs.flatMap vcl)) : ∃ p cap, v = .slice p hs.length cap ∧ Cs W p hs := by
  have h' := h
  obtain ⟨_, h2⟩ := h
  rcases h2 with ⟨rfl, h0⟩ | ⟨g, cap, cur, rfl, hg, hh, hrest⟩
  · exact ⟨none, 0, by rw [h0], fun k hk => by omega⟩
  · refine ⟨some ⟨g, 0, none⟩, cap, rfl, fun k hk => ⟨g, rfl, (Array.getElem?_eq_some_iff.1 hh).1, fun j hj => ?_⟩⟩
    have hl : j < (vcl (hs[k]?.getD false)).length := by rw [vcl_len]; exact hj
    have := h'.cells (g := g) rfl (k * 33 + j) ((vcl (hs[k]?.getD false))[j]) (by rw [flat_at hs k j hk hj, List.getElem?_eq_getElem hl])
    rw [List.getElem?_eq_getElem hl, ← this]
    congr 1
    unfold Addr.add
    split <;> simp_all
/-- How many of the first k are not halted. -/
def cnt (hs : List Bool) : Nat → Nat
  | 0 => 0
  | k + 1 => cnt hs k + if hs[k]?.getD false = true then 0 else 1
theorem cnt_le (hs : List Bool) : ∀ k, cnt hs k ≤ k
  | 0 => Nat.le_refl _
  | k + 1 => by have := cnt_le hs k; unfold cnt; split <;> omega
theorem size44 : (Try.prog.info? 44).map (·.size) = some 33 := by kernel_rfl
theorem vcl_all (h : Bool) : (vcl h).toArray.all (·.oneCell') = true := Array.all_eq_true_iff_forall_mem.2 (fun v hv => vcl_one h v (by simpa using hv))
/-- A guest copied into a block of its own. -/
theorem copied_below {w wr : World} (f : Bool) (h : Below w.heap.size w wr) (z : Array Value) : Below w.heap.size w ((wr.alloc (.cells z 44)).setRow wr.heap.size (vcl f).toArray) := by
  rw [World.setRow_alloc_new]; exact h.alloc h.size _
theorem copied_flag (wr : World) (f : Bool) (z : Array Value) : ((wr.alloc (.cells z 44)).setRow wr.heap.size (vcl f).toArray).cell? ⟨wr.heap.size, 30, none⟩ = some (.bool f) := by
  rw [World.setRow_alloc_new, World.cell?_alloc_new]; rfl
set_option maxRecDepth 100000 in
set_option maxHeartbeats 4000000 in
theorem runnable_any (p : Option Addr) (c : Nat) (hs : List Bool) (w : World) (hlen : hs.length ≤ 1000) (hb : Cs w p hs) :
    Calls Try.prog 11 #[.slice p hs.length c] w fun e w' => e = .returned (.int .i64 (cnt hs hs.length)) ∧ Below w.heap.size w w' := by
  go_enter Try.func11, Try.ntmps11
  go_wp2
  go_loopw [3, 8] (fun n i wr => ∃ k : Nat, k ≤ hs.length ∧ i = .int .i64 k ∧ n = .int .i64 (cnt hs k) ∧ Below w.heap.size w wr) (fun _ i _ => hs.length - (intOf i).toNat)
  case atStart => exact ⟨0, by omega, rfl, rfl, Below.refl _ _⟩
  case round =>
    obtain ⟨k, hk, rfl, rfl, hbr⟩ := hrel
    by_cases hlt : k < hs.length
    · obtain ⟨b, rfl, hal, hac⟩ := hb.below hbr rfl k hlt
      obtain ⟨f, hf⟩ : ∃ f, hs[k]?.getD false = f := ⟨_, rfl⟩
      have hcnt : cnt hs (k + 1) = cnt hs k + if f = true then 0 else 1 := by rw [← hf]; rfl
      have hle := cnt_le hs k
      rw [hf] at hac
      have BR := Lib.hid hbr
      clear hbr hb
      have hR : wr.rangeAt b (k * 33) (vcl f) := fun j v hv => by
        have hj : j < 33 := by rw [← vcl_len f]; exact (List.getElem?_eq_some_iff.1 hv).1
        rw [hac j hj]; exact hv
      clear hac
      have hi44 : (Try.prog.info? 44).map (·.size) = some (vcl f).length := size44
      go_wp2_with (first
        | (refine wpList_load_mid rfl 44 (.tmp 10) rfl b (k * 33) rfl (vcl f) _ hR Try.underlying44 rfl hi44 ?_)
        | (refine wpList_store_row rfl 44 (.tmp 5) (.tmp 11) rfl wr.heap.size (vcl f).toArray rfl rfl 44 _ (World.alloc_heap_new _ _) size44 rfl (vcl_all f) ?_
           have h30 := copied_flag wr f (vcl false).toArray
           have BX := Lib.hid (copied_below f BR.out (vcl false).toArray)
           obtain ⟨w2, hw2⟩ : ∃ w2, (wr.alloc (.cells (vcl false).toArray 44)).setRow wr.heap.size (vcl f).toArray = w2 := ⟨_, rfl⟩
           rw [hw2] at h30 BX
           refine hw2 ▸ ?_
           clear hw2))
      all_goals
        go_roundw
        case rel =>
          first
            | (have h1 : (!f) = false := by assumption
               have h2 : f = true := by simpa using h1
               exact ⟨k + 1, by omega, by go_num, by rw [hcnt, if_pos h2]; rfl, BX.out⟩)
            | (have h1 : (!f) = true := by assumption
               have h2 : ¬ f = true := by simpa using h1
               exact ⟨k + 1, by omega, by go_num, by rw [hcnt, if_neg h2]; go_num, BX.out⟩)
        case measure => simp [intOf]; omega
    · obtain rfl : k = hs.length := by omega
      go_wp2
      go_ret
      exact ⟨rfl, hbr⟩
end Go.Proofs.Ytppaegfmmegabaa.Sched
