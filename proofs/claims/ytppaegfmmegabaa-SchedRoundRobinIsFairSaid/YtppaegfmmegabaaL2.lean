/- The law SchedNextIsFirstRunnable, walked. -/
import Derived.Test.YtppaegfmmegabaaAwk
import Derived.Test.YtppaegfmmegabaaL3
import Derived.Deep.OwnRows
namespace Go.Proofs.Ytppaegfmmegabaa.Sched
open Go Go.RowKit Go.Shelf Go.Proofs.YtppaegfmmegabaaW.PrintWords Go.Proofs.YtppaegfmmegabaaW.PrintLast Go.Proofs.YtppaegfmmegabaaW.PrintMore
set_option linter.unusedVariables false
set_option linter.unusedSimpArgs false
/-- The next guest, seen from a place of the ring: above it, or from the bottom on. -/
theorem nxt_char {hs : List Bool} {m : Nat} (hm : m < hs.length) (hl : live hs) :
    ∃ a, a < hs.length ∧ hs[a]?.getD false = false ∧ nxt hs (m : Int) = (a, true) ∧
      ((m < a ∧ ∀ q, m < q → q < a → hs[q]?.getD false = true) ∨ (a ≤ m ∧ (∀ q, m < q → q < hs.length → hs[q]?.getD false = true) ∧ ∀ q, q < a → hs[q]?.getD false = true)) := by
  have F := fr_in hm
  cases e : nk hs (st hs.length (m : Int)) with
  | none =>
    obtain ⟨a, _, _, h⟩ := nxt_live hl (m : Int)
    unfold nxt at h
    rw [e] at h
    cases h
  | some k =>
    have e' := e
    unfold nk at e'
    rw [List.find?_range_eq_some] at e'
    obtain ⟨h1, h2, h3⟩ := e'
    have hk := List.mem_range.1 h2
    have hx : nxt hs (m : Int) = ((st hs.length (m : Int) + 1 + k) % hs.length, true) := by unfold nxt; rw [e]
    by_cases hu : k < hs.length - (m + 1)
    · rw [F.up k hu] at h1 hx
      refine ⟨m + 1 + k, by omega, by simpa using h1, hx, .inl ⟨by omega, fun q hq1 hq2 => ?_⟩⟩
      have := h3 (q - (m + 1)) (by omega)
      rw [F.up _ (by omega), show m + 1 + (q - (m + 1)) = q by omega] at this
      simpa using this
    · have e2 := F.lo (k - (hs.length - (m + 1))) (by omega)
      rw [show hs.length - (m + 1) + (k - (hs.length - (m + 1))) = k by omega] at e2
      rw [e2] at h1 hx
      refine ⟨_, by omega, by simpa using h1, hx, .inr ⟨by omega, fun q hq1 hq2 => ?_, fun q hq => ?_⟩⟩
      · have := h3 (q - (m + 1)) (by omega)
        rw [F.up _ (by omega), show m + 1 + (q - (m + 1)) = q by omega] at this
        simpa using this
      · have := h3 (hs.length - (m + 1) + q) (by omega)
        rw [F.lo q (by omega)] at this
        simpa using this
theorem nxt_same {ks : List Bool} {m a : Nat} (hm : m < ks.length) (ha : a < ks.length) (hf : ks[a]?.getD false = false)
    (h : (m < a ∧ ∀ q, m < q → q < a → ks[q]?.getD false = true) ∨ (a ≤ m ∧ (∀ q, m < q → q < ks.length → ks[q]?.getD false = true) ∧ ∀ q, q < a → ks[q]?.getD false = true)) : nxt ks (m : Int) = (a, true) := by
  rcases h with ⟨h1, h2⟩ | ⟨h1, h2, h3⟩
  · exact nxt_up (fr_in hm) (by omega) ha hf (fun q q1 q2 => h2 q (by omega) q2)
  · exact nxt_lo (fr_in hm) (by omega) hf (fun q q1 q2 => h2 q (by omega) q2) h3
theorem snoc_at (hs : List Bool) (q : Nat) : (hs ++ [true])[q]?.getD false = if q < hs.length then hs[q]?.getD false else decide (q = hs.length) := by
  by_cases h : q < hs.length
  · rw [if_pos h, List.getElem?_append_left h]
  · rw [if_neg h, List.getElem?_append_right (by omega)]
    by_cases h2 : q = hs.length
    · subst h2; simp
    · rw [List.getElem?_eq_none (by first | (simp; done) | (simp; omega))]; simp [h2]
/-- All are halted but one. -/
def onl (n a : Nat) : List Bool := (List.range n).map (fun i => decide (i ≠ a))
theorem onl_len (n a : Nat) : (onl n a).length = n := by simp [onl]
theorem onl_at {n a q : Nat} (h : q < n) : (onl n a)[q]?.getD false = decide (q ≠ a) := by
  unfold onl
  rw [List.getElem?_map, List.getElem?_range h]; rfl
theorem info4 : (Try.prog.info? 4).map (fun i => (i.zero, i.size, i.bytes)) = some (some (.bool false), 1, 1) := by kernel_rfl
theorem bs_of_row {n₀ : Nat} {W : World} {v : Value} {k : Nat} {l : List Bool} (hk : l.length = k) (h : W.ownsRow n₀ 4 1 v k (l.map Value.bool)) : ∃ A c, v = .slice A k c ∧ Bs W A l := by
  subst hk
  have h' := h
  obtain ⟨_, h2⟩ := h
  rcases h2 with ⟨rfl, h0⟩ | ⟨g, cap, cur, rfl, hg, hh, hrest⟩
  · exact ⟨none, 0, by rw [h0], fun k hk => by omega⟩
  · refine ⟨some ⟨g, 0, none⟩, cap, rfl, fun k hk => ⟨_, rfl, (Array.getElem?_eq_some_iff.1 hh).1, ?_⟩⟩
    exact h'.cells (g := g) rfl k _ (by rw [List.getElem?_map, List.getElem?_eq_getElem hk]; rfl)
theorem bs_news {W : World} {a : Addr} {hs : List Bool} (h : Bs W (some a) hs) : ∀ i u, (hs.map Value.bool)[i]? = some u → W.cell? (a.add i) = some u := by
  intro i u hu
  rw [List.getElem?_map] at hu
  cases e : hs[i]? with
  | none => rw [e] at hu; cases hu
  | some b =>
    rw [e] at hu
    have hi := (List.getElem?_eq_some_iff.1 e).1
    obtain ⟨a', ha, _, hc⟩ := h i hi
    cases ha
    rw [hc, e]
    exact hu
theorem bool_one (hs : List Bool) : ∀ u ∈ hs.map Value.bool, u.oneCell' = true := by
  intro u hu
  obtain ⟨b, _, rfl⟩ := List.mem_map.1 hu
  rfl
/-- How far it is from i round to a. -/
def way (n a i : Nat) : Nat := if a < i then n - i + a else a - i
set_option maxRecDepth 100000 in
set_option maxHeartbeats 4000000 in
theorem nlaw_live (A : Option Addr) (c : Nat) (hs : List Bool) (pl m : Nat) (w : World) (hb : Bs w A hs) (hl : hs.length ≤ 60) (hpl : pl < 256) (h0 : 0 < hs.length) (hv : live hs) (hm : (pl : Int) % (hs.length : Int) = (m : Int)) (hml : m < hs.length) :
    Calls Try.prog 5 #[.slice A hs.length c, .int .u8 (pl : Int)] w fun e w' => e = .returned (.bool true) ∧ Below w.heap.size w w' := by
  obtain ⟨i0, hi, hz0, hz1, hz2⟩ := info_parts info4
  obtain ⟨a, ha, hfa, hN, hch⟩ := nxt_char hml hv
  have hlen : hs.length ≤ 1000 := by omega
  obtain ⟨k, hk⟩ : ∃ k, cnt hs hs.length = k := ⟨_, rfl⟩
  have hk0 : (k : Int) > 0 := by have := live_cnt.1 hv; omega
  have hk1 : 0 < k := by omega
  have hk2 : k ≤ 60 := by have := cnt_le hs hs.length; omega
  have l1 : ¬ (hs.length > 60) := by omega
  have l3 : ¬ ((hs.length : Int) > 60) := by omega
  have l4 : ¬ ((hs.length : Int) = 0) := by omega
  have l5 : hs.length ≠ 0 := by omega
  have hn0 : (hs.length : Int) ≠ 0 := by omega
  have hn1 : ((hs.length : Int) == 0) = false := by simpa using l5
  have hn2 : ¬ (hs = []) := fun e => by subst e; simp at h0
  have hn3 : (hs.length == 0) = false := by simpa using hn2
  go_enter Try.func5, Try.ntmps5
  go_wp2_with fail
  refine (awake_any w).mono ?_
  rintro e w1 ⟨rfl, hb1⟩
  have B1 : Hid (Below w.heap.size w w1) := Lib.hid hb1
  have z1 := B1.out.size
  have hs1 := hb.below hb1 rfl
  clear hb1
  go_wp2_with fail
  refine (ring_gives A c hs w1 hlen hs1).mono ?_
  rintro e w2 ⟨p, cap, rfl, hc2, hb'⟩
  have B2 : Hid (Below w.heap.size w w2) := Lib.hid (B1.out.trans (hb'.mono z1))
  have z2 := B2.out.size
  clear hb' hs1
  go_wp2_with fail
  refine (next_gives p cap hs (m : Int) a true w2 hlen hc2 hN).mono ?_
  rintro e w3 ⟨rfl, hb'⟩
  have B3 : Hid (Below w.heap.size w w3) := Lib.hid (B2.out.trans (hb'.mono z2))
  have z3 := B3.out.size
  have hc3 := hc2.below hb' rfl
  clear hb' hc2
  have R := runnable_any p cap hs w3 hlen hc3
  rw [hk] at R
  go_wp2_with fail
  refine R.mono ?_
  clear R
  rintro e w4 ⟨rfl, hb'⟩
  have B4 : Hid (Below w.heap.size w w4) := Lib.hid (B3.out.trans (hb'.mono z3))
  have z4 := B4.out.size
  clear hb' hc3
  have hb4 := hb.below B4.out rfl
  obtain ⟨a0, rfl, hal, hac⟩ := hb4 a ha
  rw [hfa] at hac
  have o1 : ¬ ((a : Int) < 0) := by omega
  have o2 : ¬ ((a : Int) ≥ (hs.length : Int)) := by omega
  have o3 : ¬ ((hs.length : Int) ≤ (a : Int)) := by omega
  have o4 : ¬ (hs.length ≤ a) := by omega
  obtain ⟨j0, hj0, hj1, hj2⟩ : ∃ j0 : Nat, ((m : Int) + 1) % (hs.length : Int) = (j0 : Int) ∧ j0 < hs.length ∧ ((m < a ∧ m < j0 ∧ j0 ≤ a) ∨ (a ≤ m ∧ (m < j0 ∨ j0 ≤ a))) := by
    by_cases h : m + 1 < hs.length
    · exact ⟨m + 1, by rw [Int.emod_eq_of_lt (by omega) (by omega)]; rfl, h, by rcases hch with h' | h' <;> omega⟩
    · exact ⟨0, by rw [show (m : Int) + 1 = (hs.length : Int) by omega, Int.emod_self]; rfl, h0, by rcases hch with h' | h' <;> omega⟩
  go_wp2_with fail
  go_loopw [9] (fun i wr => ∃ j : Nat, i = .int .i64 j ∧ j < hs.length ∧ ((m < a ∧ m < j ∧ j ≤ a) ∨ (a ≤ m ∧ (m < j ∨ j ≤ a))) ∧ wr = w4) (fun i _ => way hs.length a (intOf i).toNat)
  case atStart => exact ⟨j0, by first | rw [hj0] | rfl, hj1, hj2, rfl⟩
  case round =>
    obtain ⟨j, rfl, hj, hph, hw⟩ := hrel
    subst hw
    clear hj0 hj1 hj2
    by_cases hja : j = a
    · subst hja
      have hnews : ∀ i u, (hs.map Value.bool)[i]? = some u → (wr.alloc (.cells #[] 4)).cell? (a0.add i) = some u := bs_news (hb4.below ((Below.refl _ wr).alloc (Nat.le_refl _) _) rfl)
      have hl0 : (hs.map Value.bool).length = hs.length * 1 := by simp
      have hown0 : (wr.alloc (.cells #[] 4)).ownsRow w.heap.size 4 1 (.slice (some ⟨wr.heap.size, 0, none⟩) 0 0) 0 [] := World.ownsRow_made wr #[] 0 z4 (Nat.zero_le _) rfl
      have hlm : 0 + hs.length ≤ maxLen := by unfold maxLen; omega
      have hlm2 : hs.length + 1 ≤ maxLen := by unfold maxLen; omega
      go_wp2_with (first
        | (at_builtin; refine wpList_append_own _ rfl _ _ 22 rfl w.heap.size 4 i0 (.bool false) 1 1 Try.underlying22 hi hz0 hz1 hz2 rfl (by decide) _ _ _ rfl hown0 a0 hs.length c (hs.map Value.bool) rfl hl0 hnews (bool_one hs) hlm (by omega) (by first | (simp; done) | (simp; omega)) ?_; intro v5 w5 hown5 hgrow5 hnil5
           have B5 : Hid (Below w.heap.size w w5) := Lib.hid (Below.grown (B4.out.alloc z4 _) hgrow5 (by first | (simp; done) | (simp; omega)) (fun j hj => (hown0.lt _ hj).1))
           have z5 := B5.out.size
           rw [Nat.zero_add, List.nil_append] at hown5
           obtain ⟨q5, d5, rfl⟩ := row_slice hown5
           clear hgrow5 hnil5 hown0 hnews)
        | (at_builtin; refine wpList_append_own _ rfl _ _ 22 rfl w.heap.size 4 i0 (.bool false) 1 1 Try.underlying22 hi hz0 hz1 hz2 rfl (by decide) _ _ _ rfl (hown5.alloc _) ⟨w5.heap.size, 0, none⟩ 1 1 [.bool true] rfl rfl (cell_one_new _ _ _) (bool_one [true]) hlm2 (by omega) (by first | (simp; done) | (simp; omega)) ?_; intro v6 w6 hown6 hgrow6 hnil6
           have B6 : Hid (Below w.heap.size w w6) := Lib.hid (Below.grown (B5.out.alloc z5 _) hgrow6 (by first | (simp; done) | (simp; omega)) (fun j hj => (hown5.lt _ hj).1))
           have z6 := B6.out.size
           obtain ⟨A6, c6, rfl, hbs6⟩ := bs_of_row (k := hs.length + 1) (l := hs ++ [true]) (by simp) (by rw [List.map_append]; exact hown6)
           clear hown5 hown6 hgrow6 hnil6))
      have hsn : (hs ++ [true]).length = hs.length + 1 := by simp
      have R := ring_gives A6 c6 (hs ++ [true]) w6 (by rw [hsn]; omega) hbs6
      rw [hsn] at R
      refine R.mono ?_
      clear R
      rintro e w7 ⟨p7, cap7, rfl, hc7, hb'⟩
      have B7 : Hid (Below w.heap.size w w7) := Lib.hid (B6.out.trans (hb'.mono z6))
      have z7 := B7.out.size
      clear hb' hbs6
      have hN7 : nxt (hs ++ [true]) (m : Int) = (j, true) := nxt_same (by rw [hsn]; omega) (by rw [hsn]; omega) (by rw [snoc_at, if_pos hj]; exact hfa) (by
        rcases hch with ⟨h1, h2⟩ | ⟨h1, h2, h3⟩
        · exact .inl ⟨h1, fun q q1 q2 => by rw [snoc_at, if_pos (by omega)]; exact h2 q q1 q2⟩
        · refine .inr ⟨h1, fun q q1 q2 => ?_, fun q q1 => by rw [snoc_at, if_pos (by omega)]; exact h3 q q1⟩
          rw [hsn] at q2
          rw [snoc_at]
          split
          · exact h2 q q1 (by assumption)
          · exact decide_eq_true (by omega))
      have R := next_gives p7 cap7 (hs ++ [true]) (m : Int) j true w7 (by rw [hsn]; omega) hc7 hN7
      rw [hsn] at R
      clear hN7
      go_wp2_with fail
      refine R.mono ?_
      clear R
      rintro e w8 ⟨rfl, hb'⟩
      have B8 : Hid (Below w.heap.size w w8) := Lib.hid (B7.out.trans (hb'.mono z7))
      have z8 := B8.out.size
      clear hb' hc7
      have hmk : ∀ u : World, (Instr.makeSlice 22 (.int .i64 (hs.length : Int)) (.int .i64 (hs.length : Int))).run Try.prog u = .ok (.slice (some ⟨u.heap.size, 0, none⟩) hs.length hs.length) (u.alloc (.cells (madeCells #[.bool false] hs.length) 4)) :=
        fun u => run_make_row' 22 4 (.bool false) 1 Try.underlying22 info4 rfl .i64 .i64 hs.length (by omega) (by omega) u
      have hrow := World.rowIs_made w8 (.bool false) hs.length 4
      obtain ⟨B, hB⟩ : ∃ B, w8.heap.size = B := ⟨_, rfl⟩
      have zB : w.heap.size ≤ B := by omega
      have B9 : Hid (Below w.heap.size w (w8.alloc (.cells (madeCells #[.bool false] hs.length) 4))) := Lib.hid (B8.out.alloc z8 _)
      rw [hB] at hrow
      go_wp2
      clear hmk hb4 hac
      go_loopw [13] (fun i wr => ∃ q : Nat, i = .int .i64 q ∧ q ≤ hs.length ∧ wr.rowIs B 4 hs.length (fun i => .bool (if i < q then decide (i ≠ j) else false)) ∧ Below w.heap.size w wr) (fun i _ => hs.length - (intOf i).toNat)
      case atStart => exact ⟨0, rfl, by omega, hrow.congr (fun i hi => by simp), B9.out⟩
      case round =>
        obtain ⟨q, rfl, hq, hr, hbr⟩ := hrel
        by_cases hqn : q < hs.length
        · have hcq := hr.cell hqn
          have hfq := hr.frozen q
          obtain ⟨b, hb⟩ : ∃ b, decide (q ≠ j) = b := ⟨_, rfl⟩
          have hbb : ((q : Int) != (j : Int)) = b := by rw [← hb]; by_cases e : q = j <;> simp [e] <;> omega
          have hr2 := (hr.set q (.bool b)).congr (g := fun i => .bool (if i < q + 1 then decide (i ≠ j) else false)) (fun i hi => by
            by_cases e : i = q
            · subst e; simp [hb]
            · simp only [e, if_false]
              by_cases e2 : i < q
              · rw [if_pos e2, if_pos (by omega)]
              · rw [if_neg e2, if_neg (by omega)])
          have hb2 := hbr.setCell (p := ⟨B, q, none⟩) zB (.bool b)
          have HR := Lib.hid hr2
          have HB := Lib.hid hb2
          clear hr hr2 hb2
          go_wp2
          go_roundw
          case rel => exact ⟨q + 1, by go_num, by omega, HR.out, HB.out⟩
          case measure => simp [intOf]; omega
        · obtain rfl : q = hs.length := by omega
          have hbs : Bs wr (some ⟨B, 0, none⟩) (onl hs.length j) := fun i hi => by
            rw [onl_len] at hi
            refine ⟨_, rfl, hr.lt, ?_⟩
            rw [onl_at hi]
            have := hr.cell hi
            rw [if_pos hi] at this
            rw [← this]
            congr 1
            unfold Addr.add; split <;> simp_all
          have z10 : w.heap.size ≤ wr.heap.size := hbr.size
          have BR := Lib.hid hbr
          have R := ring_gives (some ⟨B, 0, none⟩) hs.length (onl hs.length j) wr (by rw [onl_len]; omega) hbs
          rw [onl_len] at R
          clear hr hbr
          go_wp2_with fail
          refine R.mono ?_
          clear R hbs
          rintro e w10 ⟨p10, cap10, rfl, hc10, hb'⟩
          have B10 : Hid (Below w.heap.size w w10) := Lib.hid (BR.out.trans (hb'.mono z10))
          have zz10 := B10.out.size
          clear hb'
          have hN10 : nxt (onl hs.length j) (m : Int) = (j, true) := nxt_same (by rw [onl_len]; omega) (by rw [onl_len]; omega) (by rw [onl_at hj]; simp) (by
            by_cases hmj : m < j
            · exact .inl ⟨hmj, fun q q1 q2 => by rw [onl_at (by omega)]; exact decide_eq_true (by omega)⟩
            · exact .inr ⟨by omega, fun q q1 q2 => by rw [onl_len] at q2; rw [onl_at q2]; exact decide_eq_true (by omega), fun q q1 => by rw [onl_at (by omega)]; exact decide_eq_true (by omega)⟩)
          have R := next_gives p10 cap10 (onl hs.length j) (m : Int) j true w10 (by rw [onl_len]; omega) hc10 hN10
          rw [onl_len] at R
          clear hN10
          go_wp2_with fail
          refine R.mono ?_
          clear R
          rintro e w11 ⟨rfl, hb'⟩
          have B11 : Hid (Below w.heap.size w w11) := Lib.hid (B10.out.trans (hb'.mono zz10))
          clear hb' hc10
          go_wp2
          go_ret
          exact ⟨by simp, B11.out⟩
    · have hfj : hs[j]?.getD false = true := by
        rcases hch with ⟨h1, h2⟩ | ⟨h1, h2, h3⟩
        · exact h2 j (by omega) (by omega)
        · by_cases hq : m < j
          · exact h2 j hq hj
          · exact h3 j (by omega)
      obtain ⟨a0', ha0, hal', hac'⟩ := hb4 j hj
      cases ha0
      rw [hfj] at hac'
      have hne : ((j : Int) != (a : Int)) = true := by first | (simp; done) | (simp; omega)
      have hne2 : ¬ ((j : Int) = (a : Int)) := by omega
      obtain ⟨j2, hj2, hj3, hj4, hj5⟩ : ∃ j2 : Nat, ((j : Int) + 1) % (hs.length : Int) = (j2 : Int) ∧ j2 < hs.length ∧ ((m < a ∧ m < j2 ∧ j2 ≤ a) ∨ (a ≤ m ∧ (m < j2 ∨ j2 ≤ a))) ∧ way hs.length a j2 < way hs.length a j := by
        by_cases h : j + 1 < hs.length
        · refine ⟨j + 1, by rw [Int.emod_eq_of_lt (by omega) (by omega)]; rfl, h, by omega, ?_⟩
          unfold way; split <;> split <;> omega
        · refine ⟨0, by rw [show (j : Int) + 1 = (hs.length : Int) by omega, Int.emod_self]; rfl, h0, by omega, ?_⟩
          unfold way; split <;> split <;> omega
      go_wp2
      go_roundw
      case rel => exact ⟨j2, by first | rw [hj2] | rfl, hj3, hj4, by first | rfl | trivial⟩
      case measure => simp only [intOf, hj2, Int.toNat_natCast]; exact hj5
set_option maxRecDepth 100000 in
set_option maxHeartbeats 4000000 in
theorem nlaw_dead (A : Option Addr) (c : Nat) (hs : List Bool) (pl m : Nat) (w : World) (hb : Bs w A hs) (hl : hs.length ≤ 60) (hpl : pl < 256) (h0 : 0 < hs.length) (hv : ¬ live hs) (hm : (pl : Int) % (hs.length : Int) = (m : Int)) :
    Calls Try.prog 5 #[.slice A hs.length c, .int .u8 (pl : Int)] w fun e w' => e = .returned (.bool true) ∧ Below w.heap.size w w' := by
  have hlen : hs.length ≤ 1000 := by omega
  have hk : cnt hs hs.length = 0 := (cnt_zero _).2 (dead_all hv)
  have l1 : ¬ (hs.length > 60) := by omega
  have l3 : ¬ ((hs.length : Int) > 60) := by omega
  have l4 : ¬ ((hs.length : Int) = 0) := by omega
  have l5 : hs.length ≠ 0 := by omega
  have hn0 : (hs.length : Int) ≠ 0 := by omega
  have hn1 : ((hs.length : Int) == 0) = false := by simpa using l5
  have hn2 : ¬ (hs = []) := fun e => by subst e; simp at h0
  have hn3 : (hs.length == 0) = false := by simpa using hn2
  go_enter Try.func5, Try.ntmps5
  go_wp2_with fail
  refine (awake_any w).mono ?_
  rintro e w1 ⟨rfl, hb1⟩
  have B1 : Hid (Below w.heap.size w w1) := Lib.hid hb1
  have z1 := B1.out.size
  have hs1 := hb.below hb1 rfl
  clear hb1
  go_wp2_with fail
  refine (ring_gives A c hs w1 hlen hs1).mono ?_
  rintro e w2 ⟨p, cap, rfl, hc2, hb'⟩
  have B2 : Hid (Below w.heap.size w w2) := Lib.hid (B1.out.trans (hb'.mono z1))
  have z2 := B2.out.size
  clear hb' hs1
  go_wp2_with fail
  refine (next_gives p cap hs (m : Int) 0 false w2 hlen hc2 (nxt_dead hv _)).mono ?_
  rintro e w3 ⟨rfl, hb'⟩
  have B3 : Hid (Below w.heap.size w w3) := Lib.hid (B2.out.trans (hb'.mono z2))
  have z3 := B3.out.size
  have hc3 := hc2.below hb' rfl
  clear hb' hc2
  have R := runnable_any p cap hs w3 hlen hc3
  rw [hk] at R
  go_wp2_with fail
  refine R.mono ?_
  clear R
  rintro e w4 ⟨rfl, hb'⟩
  have B4 : Hid (Below w.heap.size w w4) := Lib.hid (B3.out.trans (hb'.mono z3))
  clear hb' hc3
  go_wp2
  go_ret
  exact ⟨by simp, B4.out⟩
set_option maxRecDepth 100000 in
set_option maxHeartbeats 4000000 in
theorem nlaw_not (A : Option Addr) (c k : Nat) (pl : Nat) (w : World) (hm : k ≤ 9223372036854775807) (hpl : pl < 256) (h : 60 < k ∨ k = 0) :
    Calls Try.prog 5 #[.slice A k c, .int .u8 (pl : Int)] w fun e w' => e = .returned (.bool true) ∧ Below w.heap.size w w' := by
  go_enter Try.func5, Try.ntmps5
  go_wp2_with fail
  refine (awake_any w).mono ?_
  rintro e w1 ⟨rfl, hb1⟩
  have B1 : Hid (Below w.heap.size w w1) := Lib.hid hb1
  have z1 := B1.out.size
  clear hb1
  have C : ∀ w1', w1' = w1 → Calls Try.prog 7 #[] w1' fun e w' => e = .returned (.bool true) ∧ Below w.heap.size w w' := fun w1' e => by
    subst e
    exact (awake_any _).mono fun e w' ⟨he, hb⟩ => ⟨he, B1.out.trans (hb.mono z1)⟩
  rcases h with h | rfl
  · have l3 : (k : Int) > 60 := by omega
    have l1 : k > 60 := h
    go_wp2_with fail
    refine (C _ rfl).mono ?_
    rintro e w2 ⟨rfl, hb⟩
    have B2 := Lib.hid hb
    clear hb C
    go_wp2
    go_ret
    exact ⟨rfl, B2.out⟩
  · go_wp2_with fail
    refine (C _ rfl).mono ?_
    rintro e w2 ⟨rfl, hb⟩
    have B2 := Lib.hid hb
    clear hb C
    go_wp2
    go_ret
    exact ⟨rfl, B2.out⟩
theorem nlaw (A : Option Addr) (c : Nat) (hs : List Bool) (x : Int) (w : World) (hk : hs.length ≤ 9223372036854775807) (hb : Bs w A hs) (hx : (Lit.int .u8 x).wf = true) :
    Calls Try.prog 5 #[.slice A hs.length c, .int .u8 x] w fun e w' => e = .returned (.bool true) ∧ Below w.heap.size w w' := by
  obtain ⟨pl, hpl, rfl⟩ := wf_u8 hx
  by_cases h1 : hs.length ≤ 60
  · by_cases h0 : 0 < hs.length
    · have hm : (pl : Int) % (hs.length : Int) = ((pl % hs.length : Nat) : Int) := (Int.natCast_emod _ _).symm
      by_cases hv : live hs
      · exact nlaw_live A c hs pl _ w hb h1 hpl h0 hv hm (Nat.mod_lt _ h0)
      · exact nlaw_dead A c hs pl _ w hb h1 hpl h0 hv hm
    · exact nlaw_not A c _ pl w hk hpl (.inr (by omega))
  · exact nlaw_not A c _ pl w hk hpl (.inl (by omega))
end Go.Proofs.Ytppaegfmmegabaa.Sched
