/- Order and the reference Order, walked: both give the same list. -/
import Derived.Test.YtppaegfmmegabaaRefN
namespace Go.Proofs.Ytppaegfmmegabaa.Sched
open Go Go.RowKit Go.Shelf Go.Proofs.YtppaegfmmegabaaW.PrintWords Go.Proofs.YtppaegfmmegabaaW.PrintLast Go.Proofs.YtppaegfmmegabaaW.PrintMore
set_option linter.unusedVariables false
set_option linter.unusedSimpArgs false
theorem fr_any (hs : List Bool) (last : Int) : ∃ fr, Fr hs last fr := by
  by_cases ho : last < 0 ∨ last ≥ (hs.length : Int)
  · exact ⟨0, fr_out ho⟩
  · obtain ⟨m, rfl⟩ := Int.eq_ofNat_of_zero_le (show 0 ≤ last by omega)
    exact ⟨m + 1, fr_in (by omega)⟩
/-- Some guest is not halted. -/
def live (hs : List Bool) : Prop := ∃ q, q < hs.length ∧ hs[q]?.getD false = false
theorem dead_all {hs : List Bool} (h : ¬ live hs) : ∀ q, q < hs.length → hs[q]?.getD false = true := fun q hq => by
  cases e : hs[q]?.getD false
  · exact absurd ⟨q, hq, e⟩ h
  · rfl
theorem nxt_dead {hs : List Bool} (h : ¬ live hs) (last : Int) : nxt hs last = (0, false) := by
  obtain ⟨fr, F⟩ := fr_any hs last
  exact nxt_no F (fun q _ h2 => dead_all h q h2) (fun q h1 => dead_all h q (by have := F.le; omega))
theorem nxt_live {hs : List Bool} (h : live hs) (last : Int) : ∃ a, a < hs.length ∧ hs[a]?.getD false = false ∧ nxt hs last = (a, true) := by
  obtain ⟨fr, F⟩ := fr_any hs last
  have hfl := F.le
  cases e : nk hs (st hs.length last) with
  | none =>
    exfalso
    unfold nk at e
    rw [List.find?_range_eq_none] at e
    obtain ⟨q, hq, hf⟩ := h
    by_cases hqf : fr ≤ q
    · have := e (q - fr) (by omega)
      rw [F.up (q - fr) (by omega), show fr + (q - fr) = q by omega, hf] at this
      simp at this
    · have := e (hs.length - fr + q) (by omega)
      rw [F.lo q (by omega), hf] at this
      simp at this
  | some k =>
    have e' := e
    unfold nk at e'
    rw [List.find?_range_eq_some] at e'
    obtain ⟨h1, h2, h3⟩ := e'
    have hk := List.mem_range.1 h2
    refine ⟨(st hs.length last + 1 + k) % hs.length, Nat.mod_lt _ (by omega), by simpa using h1, ?_⟩
    unfold nxt
    rw [e]
theorem cnt_zero {hs : List Bool} : ∀ k, cnt hs k = 0 ↔ ∀ q, q < k → hs[q]?.getD false = true
  | 0 => by simp [cnt]
  | k + 1 => by
    have ih := cnt_zero (hs := hs) k
    unfold cnt
    constructor
    · intro h q hq
      have h1 : cnt hs k = 0 := by omega
      by_cases hqk : q < k
      · exact ih.1 h1 q hqk
      · obtain rfl : q = k := by omega
        by_cases hf : hs[q]?.getD false = true
        · exact hf
        · rw [if_neg hf] at h; omega
    · intro h
      rw [ih.2 (fun q hq => h q (by omega)), if_pos (h k (by omega))]
theorem live_cnt {hs : List Bool} : live hs ↔ cnt hs hs.length ≠ 0 := by
  constructor
  · rintro ⟨q, hq, hf⟩ h
    have := (cnt_zero _).1 h q hq
    rw [hf] at this
    cases this
  · intro h
    by_cases hl : live hs
    · exact hl
    · exact absurd ((cnt_zero _).2 (dead_all hl)) h
/-- The k-th guest from last on. -/
def it (hs : List Bool) (last : Int) : Nat → Int
  | 0 => last
  | k + 1 => ((nxt hs (it hs last k)).1 : Int)
/-- The first n of the order. -/
def ol (hs : List Bool) (last : Int) (n : Nat) : List Int := (List.range n).map (fun j => it hs last (j + 1))
theorem ol_len (hs : List Bool) (last : Int) (n : Nat) : (ol hs last n).length = n := by simp [ol]
theorem ol_succ (hs : List Bool) (last : Int) (n : Nat) : ol hs last (n + 1) = ol hs last n ++ [it hs last (n + 1)] := by simp [ol, List.range_succ]
/-- What Order answers. -/
noncomputable def od (hs : List Bool) (last n : Int) : List Int := @ite _ (live hs) (Classical.propDecidable _) (ol hs last n.toNat) []
theorem od_live {hs : List Bool} (h : live hs) (last n : Int) : od hs last n = ol hs last n.toNat := if_pos h
theorem od_dead {hs : List Bool} (h : ¬ live hs) (last n : Int) : od hs last n = [] := if_neg h
/-- A slice value's length. -/
def lenV : Value → Nat
  | .slice _ n _ => n
  | _ => 0
theorem row_len {W : World} {b : Nat} {e : TypeId} {s : Nat} {v : Value} {n : Nat} {xs : List Value} (h : W.ownsRow b e s v n xs) : lenV v = n := by
  rcases h.2 with ⟨rfl, h0⟩ | ⟨g, cap, cur, rfl, _⟩
  · exact h0.symm
  · rfl
theorem row_slice {W : World} {b : Nat} {e : TypeId} {s : Nat} {v : Value} {n : Nat} {xs : List Value} (h : W.ownsRow b e s v n xs) : ∃ p c, v = .slice p n c := by
  rcases h.2 with ⟨rfl, rfl⟩ | ⟨g, cap, cur, rfl, _⟩
  · exact ⟨_, _, rfl⟩
  · exact ⟨_, _, rfl⟩
set_option maxRecDepth 100000 in
set_option maxHeartbeats 4000000 in
theorem order_any (p : Option Addr) (c : Nat) (hs : List Bool) (last n : Int) (w : World) (hlen : hs.length ≤ 1000) (hn : n ≤ 1000) (hb : Cs w p hs) :
    Calls Try.prog 14 #[.slice p hs.length c, .int .i64 last, .int .i64 n] w fun e w' => ∃ v, e = .returned v ∧ w'.ownsRow w.heap.size 3 1 v (od hs last n).length ((od hs last n).map (.int .i64 ·)) ∧ Below w.heap.size w w' := by
  obtain ⟨i0, hi, hz0, hz1, hz2⟩ := info_parts info3
  by_cases hl : live hs
  · rw [od_live hl, ol_len]
    go_enter Try.func14, Try.ntmps14
    go_wp2
    go_loopw [1, 7] (fun l v wr => ∃ k : Nat, (k = 0 ∨ (k : Int) ≤ n) ∧ l = .int .i64 (it hs last k) ∧ (∃ q d, v = .slice q k d) ∧ wr.ownsRow w.heap.size 3 1 v k ((ol hs last k).map (.int .i64 ·)) ∧ Below w.heap.size w wr) (fun _ v _ => n.toNat - lenV v)
    case atStart => exact ⟨0, .inl rfl, rfl, ⟨_, _, rfl⟩, World.ownsRow_nil _ _ _ _, Below.refl _ _⟩
    case round =>
      obtain ⟨k, hk, rfl, ⟨q, d, rfl⟩, hown, hbr⟩ := hrel
      by_cases hlt : (k : Int) < n
      · obtain ⟨a, ha, hfa, hna⟩ := nxt_live hl (it hs last k)
        have C := next_any hs p c (it hs last k) wr hlen (hb.below hbr rfl).flag
        rw [hna] at C
        have hit : it hs last (k + 1) = (a : Int) := by show ((nxt hs (it hs last k)).1 : Int) = a; rw [hna]
        have hol := ol_succ hs last k
        rw [hit] at hol
        clear hna
        go_wp2_with fail
        refine C.mono ?_
        rintro e w2 ⟨rfl, hb2⟩
        have z1 : w.heap.size ≤ wr.heap.size := hbr.size
        have z2 : wr.heap.size ≤ w2.heap.size := hb2.size
        have hown2 : w2.ownsRow w.heap.size 3 1 (.slice q k d) k ((ol hs last k).map (.int .i64 ·)) := by
          refine ⟨hown.1, ?_⟩
          rcases hown.2 with h0 | ⟨g, cap, cur, hv, hg, hh, hrest⟩
          · exact .inl h0
          · exact .inr ⟨g, cap, cur, hv, hg, by rw [hb2.block g (Array.getElem?_eq_some_iff.1 hh).1]; exact hh, hrest⟩
        have hb3 : Below w.heap.size w w2 := hbr.trans (hb2.mono z1)
        clear C hown hbr hb2
        have hown := hown2
        go_wp2_with (first
          | (at_builtin; refine wpList_append_own _ rfl _ _ 30 rfl w.heap.size 3 i0 (.int .i64 0) 1 8 Try.underlying30 hi hz0 hz1 hz2 rfl (by decide) _ _ _ rfl (hown2.alloc _) ⟨w2.heap.size, 0, none⟩ 1 1 [.int .i64 (a : Int)] rfl rfl (cell_one_new _ _ _) (fun x hx => by simp at hx; subst hx; rfl) (by unfold maxLen; omega) (by omega) (by simp; omega) ?_; intro v' w3 hown' hgrow3 hnil3
             have hbw3 : Below w.heap.size w w3 := Below.grown (hb3.alloc (by omega) _) hgrow3 (by simp; omega) (fun j hj => (hown2.lt _ hj).1)
             have X : Hid (w3.ownsRow w.heap.size 3 1 v' (k + 1) ((ol hs last (k + 1)).map (.int .i64 ·)) ∧ Below w.heap.size w w3) := ⟨by rw [hol, List.map_append]; exact hown', hbw3⟩
             obtain ⟨q', d', rfl⟩ := row_slice hown'
             clear hown' hgrow3 hnil3 hbw3))
        go_roundw
        case rel => exact ⟨k + 1, .inr (by omega), by rw [hit], ⟨_, _, rfl⟩, X.out.1, X.out.2⟩
        case measure => simp [lenV]; omega
      · have e : n.toNat = k := by omega
        rw [e]
        go_wp2
        go_ret
        exact ⟨_, rfl, hown, hbr⟩
  · rw [od_dead hl]
    have C := next_any hs p c last w hlen hb.flag
    rw [nxt_dead hl] at C
    go_enter Try.func14, Try.ntmps14
    go_wp2
    go_loopw [1, 7] (fun l v wr => l = .int .i64 last ∧ v = .slice none 0 0 ∧ wr = w) (fun _ _ _ => 0)
    case atStart => exact ⟨rfl, rfl, rfl⟩
    case round =>
      obtain ⟨rfl, rfl, rfl⟩ := hrel
      by_cases hlt : 0 < n
      · go_wp2_with fail
        refine C.mono ?_
        rintro e w2 ⟨rfl, hb2⟩
        go_wp2
        go_ret
        exact ⟨_, rfl, World.ownsRow_nil _ _ _ _, hb2⟩
      · go_wp2
        go_ret
        exact ⟨_, rfl, World.ownsRow_nil _ _ _ _, Below.refl _ _⟩
set_option maxRecDepth 100000 in
set_option maxHeartbeats 4000000 in
theorem rorder_any (p : Option Addr) (c : Nat) (hs : List Bool) (last n : Int) (w : World) (hlen : hs.length ≤ 1000) (hn : n ≤ 1000) (hb : Cs w p hs) :
    Calls Try.prog 15 #[.slice p hs.length c, .int .i64 last, .int .i64 n] w fun e w' => ∃ v, e = .returned v ∧ w'.ownsRow w.heap.size 3 1 v (od hs last n).length ((od hs last n).map (.int .i64 ·)) ∧ Below w.heap.size w w' := by
  obtain ⟨i0, hi, hz0, hz1, hz2⟩ := info_parts info3
  have L := left_any p c hs w hlen hb
  by_cases hl : live hs
  · have hc := live_cnt.1 hl
    have hc2 := cnt_le hs hs.length
    obtain ⟨m, hm⟩ : ∃ m, cnt hs hs.length = m := ⟨_, rfl⟩
    rw [hm] at L hc hc2
    have hc3 : ((m : Int) == 0) = false := by simpa using hc
    rw [od_live hl, ol_len]
    go_enter Try.func15, Try.ntmps15
    go_wp2_with fail
    refine L.mono ?_
    rintro e w1 ⟨rfl, hb1⟩
    have hbs := hb.below hb1 rfl
    go_wp2
    go_loopw [1, 7, 8] (fun l v i wr => ∃ k : Nat, i = .int .i64 k ∧ (k = 0 ∨ (k : Int) ≤ n) ∧ l = .int .i64 (it hs last k) ∧ (∃ q d, v = .slice q k d) ∧ wr.ownsRow w.heap.size 3 1 v k ((ol hs last k).map (.int .i64 ·)) ∧ Below w.heap.size w wr) (fun _ _ i _ => n.toNat - (intOf i).toNat)
    case atStart => exact ⟨0, rfl, .inl rfl, rfl, ⟨_, _, rfl⟩, World.ownsRow_nil _ _ _ _, hb1⟩
    case round =>
      obtain ⟨k, rfl, hk, rfl, ⟨q, d, rfl⟩, hown, hbr⟩ := hrel
      by_cases hlt : (k : Int) < n
      · obtain ⟨a, ha, hfa, hna⟩ := nxt_live hl (it hs last k)
        have C := rnext_any p c hs (it hs last k) wr hlen (hb.below hbr rfl)
        rw [hna] at C
        have hit : it hs last (k + 1) = (a : Int) := by show ((nxt hs (it hs last k)).1 : Int) = a; rw [hna]
        have hol := ol_succ hs last k
        rw [hit] at hol
        clear hna
        go_wp2_with fail
        refine C.mono ?_
        rintro e w2 ⟨rfl, hb2⟩
        have z1 : w.heap.size ≤ wr.heap.size := hbr.size
        have z2 : wr.heap.size ≤ w2.heap.size := hb2.size
        have hown2 : w2.ownsRow w.heap.size 3 1 (.slice q k d) k ((ol hs last k).map (.int .i64 ·)) := by
          refine ⟨hown.1, ?_⟩
          rcases hown.2 with h0 | ⟨g, cap, cur, hv, hg, hh, hrest⟩
          · exact .inl h0
          · exact .inr ⟨g, cap, cur, hv, hg, by rw [hb2.block g (Array.getElem?_eq_some_iff.1 hh).1]; exact hh, hrest⟩
        have hb3 : Below w.heap.size w w2 := hbr.trans (hb2.mono z1)
        clear C hown hbr hb2
        go_wp2_with (first
          | (at_builtin; refine wpList_append_own _ rfl _ _ 30 rfl w.heap.size 3 i0 (.int .i64 0) 1 8 Try.underlying30 hi hz0 hz1 hz2 rfl (by decide) _ _ _ rfl (hown2.alloc _) ⟨w2.heap.size, 0, none⟩ 1 1 [.int .i64 (a : Int)] rfl rfl (cell_one_new _ _ _) (fun x hx => by simp at hx; subst hx; rfl) (by unfold maxLen; omega) (by omega) (by simp; omega) ?_; intro v' w3 hown' hgrow3 hnil3
             have hbw3 : Below w.heap.size w w3 := Below.grown (hb3.alloc (by omega) _) hgrow3 (by simp; omega) (fun j hj => (hown2.lt _ hj).1)
             have X : Hid (w3.ownsRow w.heap.size 3 1 v' (k + 1) ((ol hs last (k + 1)).map (.int .i64 ·)) ∧ Below w.heap.size w w3) := ⟨by rw [hol, List.map_append]; exact hown', hbw3⟩
             obtain ⟨q', d', rfl⟩ := row_slice hown'
             clear hown' hgrow3 hnil3 hbw3))
        go_roundw
        case rel => exact ⟨k + 1, by go_num, .inr (by omega), by rw [hit], ⟨_, _, rfl⟩, X.out.1, X.out.2⟩
        case measure => simp [intOf]; omega
      · have e : n.toNat = k := by omega
        rw [e]
        go_wp2
        go_ret
        exact ⟨_, rfl, hown, hbr⟩
  · have hc : cnt hs hs.length = 0 := (cnt_zero _).2 (dead_all hl)
    rw [hc] at L
    rw [od_dead hl]
    go_enter Try.func15, Try.ntmps15
    go_wp2_with fail
    refine L.mono ?_
    rintro e w1 ⟨rfl, hb1⟩
    go_wp2
    go_ret
    exact ⟨_, rfl, World.ownsRow_nil _ _ _ _, hb1⟩
end Go.Proofs.Ytppaegfmmegabaa.Sched
