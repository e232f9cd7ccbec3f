/- The law SchedOrderFollowsNext, walked. -/
import Derived.Test.YtppaegfmmegabaaAwk
namespace Go.Proofs.Ytppaegfmmegabaa.Sched
open Go Go.RowKit Go.Shelf Go.Proofs.YtppaegfmmegabaaW.PrintWords Go.Proofs.YtppaegfmmegabaaW.PrintLast Go.Proofs.YtppaegfmmegabaaW.PrintMore
set_option linter.unusedVariables false
set_option linter.unusedSimpArgs false
theorem order_shape (p : Option Addr) (c : Nat) (hs : List Bool) (last n : Int) (o : List Int) (w : World) (hlen : hs.length ≤ 1000) (hn : n ≤ 1000) (hb : Cs w p hs) (ho : od hs last n = o) :
    Calls Try.prog 14 #[.slice p hs.length c, .int .i64 last, .int .i64 n] w fun e w' => ∃ A d, e = .returned (.slice A o.length d) ∧ Is w' A o ∧ Below w.heap.size w w' ∧ o.length ≤ d ∧ d ≤ maxLen ∧ ((A = none ∧ d = 0 ∧ o = []) ∨ ∃ g, A = some ⟨g, 0, none⟩) := by
  subst ho
  exact (order_any p c hs last n w hlen hn hb).mono fun e w' ⟨v, he, hown, hbw⟩ => by
    obtain ⟨A, d, rfl, hi⟩ := is_open hown
    refine ⟨A, d, he, hi, hbw, ?_⟩
    rcases hown.2 with ⟨h0, h1⟩ | ⟨g, cap, cur, h0, _, _, h1, h2, _⟩
    · obtain ⟨rfl, h3, rfl⟩ : A = none ∧ (od hs last n).length = 0 ∧ d = 0 := by simpa using h0
      exact ⟨by omega, by simp [maxLen], .inl ⟨rfl, rfl, List.length_eq_zero_iff.1 h3⟩⟩
    · obtain ⟨rfl, rfl⟩ : A = some ⟨g, 0, none⟩ ∧ d = cap := by simpa using h0
      exact ⟨h1, h2, .inr ⟨g, rfl⟩⟩
theorem Is.take {W : World} {A : Option Addr} {xs ys : List Int} (h : Is W A xs) (hle : ys.length ≤ xs.length) (he : ∀ k, k < ys.length → ys[k]?.getD 0 = xs[k]?.getD 0) : Is W A ys := fun k hk => by
  obtain ⟨a, rfl, hl, hc⟩ := h k (by omega)
  exact ⟨a, rfl, hl, by rw [hc, he k hk]⟩
theorem ol_at (hs : List Bool) (last : Int) (n k : Nat) (hk : k < n) : (ol hs last n)[k]?.getD 0 = it hs last (k + 1) := by
  unfold ol
  rw [List.getElem?_map, List.getElem?_range hk]; rfl
set_option maxRecDepth 100000 in
set_option maxHeartbeats 4000000 in
theorem olaw_live (A : Option Addr) (c : Nat) (hs : List Bool) (last : Int) (n m : Nat) (w : World) (hb : Bs w A hs) (hl : hs.length ≤ 60) (hn : n ≤ 100) (hm : m ≤ 100) (hv : live hs) :
    Calls Try.prog 6 #[.slice A hs.length c, .int .i64 last, .int .u8 (n : Int), .int .u8 (m : Int)] w fun e w' => e = .returned (.bool true) ∧ Below w.heap.size w w' := by
  have ho1 : od hs last (n : Int) = ol hs last n := by rw [od_live hv]; rfl
  have ho2 : od hs last ((n : Int) + (m : Int)) = ol hs last (n + m) := by rw [od_live hv]; congr 1
  have hlen : hs.length ≤ 1000 := by omega
  obtain ⟨k, hk⟩ : ∃ k, cnt hs hs.length = k := ⟨_, rfl⟩
  have hk0 : ¬ ((k : Int) = 0) := by have := live_cnt.1 hv; omega
  have hk1 : k ≠ 0 := by omega
  have hk2 : k ≤ 60 := by have := cnt_le hs hs.length; omega
  have l1 : ¬ (hs.length > 60) := by omega
  have l3 : ¬ ((hs.length : Int) > 60) := by omega
  have l4 : ¬ ((n : Int) > 100) := by omega
  have l5 : ¬ ((m : Int) > 100) := by omega
  go_enter Try.func6, Try.ntmps6
  go_wp2_with fail
  refine (awake_any w).mono ?_
  rintro e w1 ⟨rfl, hb1⟩
  have B1 : Hid (Below w.heap.size w w1) := Lib.hid hb1
  have z1 := B1.out.size
  have hs1 := hb.below hb1 rfl
  clear hb1 hb
  go_wp2_with fail
  refine (ring_gives A c hs w1 hlen hs1).mono ?_
  rintro e w2 ⟨p, cap, rfl, hc2, hb⟩
  have B2 : Hid (Below w.heap.size w w2) := Lib.hid (B1.out.trans (hb.mono z1))
  have z2 := B2.out.size
  clear hb hs1
  have R := order_shape p cap hs last (n : Int) _ w2 hlen (by omega) hc2 ho1
  rw [ol_len] at R
  go_wp2_with fail
  refine R.mono ?_
  clear R
  rintro e w3 ⟨A1, d1, rfl, i1, hb, _, _, _⟩
  have B3 : Hid (Below w.heap.size w w3) := Lib.hid (B2.out.trans (hb.mono z2))
  have z3 := B3.out.size
  have hc3 := hc2.below hb rfl
  clear hb hc2
  have R := order_shape p cap hs last ((n : Int) + (m : Int)) _ w3 hlen (by omega) hc3 ho2
  rw [ol_len] at R
  go_wp2_with fail
  refine R.mono ?_
  clear R
  rintro e w4 ⟨A2, d2, rfl, i2, hb, hd1, hd2, hsh⟩
  have B4 : Hid (Below w.heap.size w w4) := Lib.hid (B3.out.trans (hb.mono z3))
  have z4 := B4.out.size
  have hc4 := hc3.below hb rfl
  have i1' := i1.below hb (Nat.le_refl _)
  clear hb hc3 i1
  have R := runnable_any p cap hs w4 hlen hc4
  rw [hk] at R
  go_wp2_with fail
  refine R.mono ?_
  clear R
  rintro e w5 ⟨rfl, hb⟩
  have B5 : Hid (Below w.heap.size w w5) := Lib.hid (B4.out.trans (hb.mono z4))
  have z5 := B5.out.size
  have hc5 := hc4.below hb rfl
  have i1 := i1'.below hb (Nat.le_refl _)
  have i3 := i2.below hb (Nat.le_refl _)
  clear hb hc4 i1' i2
  have S : ∀ d e, Calls Try.prog 13 #[.slice A2 n d, .slice A1 n e] w5 fun e w' => e = .returned (.bool true) ∧ Below w5.heap.size w5 w' := fun d e => by
    have := same_any A2 A1 d e (ol hs last n) (ol hs last n) w5 (by rw [ol_len]; omega) (by rw [ol_len]; omega) (i3.take (by rw [ol_len, ol_len]; omega) (fun k hk => by rw [ol_len] at hk; rw [ol_at hs last n k hk, ol_at hs last (n + m) k (by omega)])) i1
    rw [ol_len] at this
    simpa using this
  have l6 : n ≤ d2 := by omega
  have l7 : ¬ ((n : Int) > (d2 : Int)) := by omega
  have l8 : d2 ≤ 9223372036854775807 := by unfold maxLen at hd2; omega
  rcases hsh with ⟨rfl, rfl, h0⟩ | ⟨g, rfl⟩
  · have hnm : n + m = 0 := by rw [← ol_len hs last (n + m), h0]; rfl
    obtain rfl : n = 0 := by omega
    obtain rfl : m = 0 := by omega
    clear i3
    go_wp2_with fail
    refine (S _ _).mono ?_
    rintro e w6 ⟨rfl, hb⟩
    have B6 : Hid (Below w.heap.size w w6) := Lib.hid (B5.out.trans (hb.mono z5))
    clear hb S hc5
    go_wp2
    go_loopw [12, 13] (fun at_ i wr => i = .int .i64 0 ∧ Below w.heap.size w wr) (fun _ _ _ => 0)
    case atStart => exact ⟨rfl, B6.out⟩
    case round =>
      obtain ⟨rfl, hbr⟩ := hrel
      go_wp2
      go_ret
      exact ⟨rfl, hbr⟩
  · go_wp2_with fail
    refine (S _ _).mono ?_
    rintro e w6 ⟨rfl, hb⟩
    have B6 : Hid (Below w.heap.size w w6) := Lib.hid (B5.out.trans (hb.mono z5))
    have hc6 := hc5.below hb rfl
    have i6 := i3.below hb (Nat.le_refl _)
    clear hb S hc5 i3 i1
    go_wp2
    go_loopw [12, 13] (fun at_ i wr => ∃ j : Nat, j ≤ n + m ∧ i = .int .i64 j ∧ at_ = .int .i64 (it hs last j) ∧ Below w.heap.size w wr ∧ Below w6.heap.size w6 wr) (fun _ i _ => n + m - (intOf i).toNat)
    case atStart => exact ⟨0, by omega, rfl, rfl, B6.out, Below.refl _ _⟩
    case round =>
      obtain ⟨j, hj, rfl, rfl, hbr, hbr6⟩ := hrel
      have BR := Lib.hid hbr
      have BR6 := Lib.hid hbr6
      by_cases hlt : j < n + m
      · obtain ⟨a, ha, hfa, hna⟩ := nxt_live hv (it hs last j)
        have C := next_gives p cap hs (it hs last j) a true wr hlen (hc6.below hbr6 rfl) hna
        have hit : it hs last (j + 1) = (a : Int) := by show ((nxt hs (it hs last j)).1 : Int) = a; rw [hna]
        clear hna hbr hbr6
        go_wp2_with fail
        refine C.mono ?_
        clear C
        rintro e w7 ⟨rfl, hb⟩
        have B7 : Hid (Below w.heap.size w w7) := Lib.hid (BR.out.trans (hb.mono BR.out.size))
        have B76 : Hid (Below w6.heap.size w6 w7) := Lib.hid (BR6.out.trans (hb.mono BR6.out.size))
        obtain ⟨a', ha', hlt7, hc7⟩ := (i6.below B76.out (Nat.le_refl _)) j (by rw [ol_len]; exact hlt)
        rw [ol_at hs last (n + m) j hlt, hit] at hc7
        cases ha'
        have hc8 : w7.cell? ⟨g, j, none⟩ = some (.int .i64 a) := by rw [← hc7]; congr 1; unfold Addr.add; split <;> simp_all
        clear hb hc7
        go_wp2
        go_roundw
        case rel => exact ⟨j + 1, by omega, by go_num, by rw [hit], B7.out, B76.out⟩
        case measure => simp [intOf]; omega
      · obtain rfl : j = n + m := by omega
        clear hbr hbr6
        go_wp2
        go_ret
        exact ⟨rfl, BR.out⟩
set_option maxRecDepth 100000 in
set_option maxHeartbeats 4000000 in
theorem olaw_dead (A : Option Addr) (c : Nat) (hs : List Bool) (last : Int) (n m : Nat) (w : World) (hb : Bs w A hs) (hl : hs.length ≤ 60) (hn : n ≤ 100) (hm : m ≤ 100) (hv : ¬ live hs) :
    Calls Try.prog 6 #[.slice A hs.length c, .int .i64 last, .int .u8 (n : Int), .int .u8 (m : Int)] w fun e w' => e = .returned (.bool true) ∧ Below w.heap.size w w' := by
  have ho1 : od hs last (n : Int) = [] := od_dead hv _ _
  have ho2 : od hs last ((n : Int) + (m : Int)) = [] := od_dead hv _ _
  have hlen : hs.length ≤ 1000 := by omega
  have hk : cnt hs hs.length = 0 := (cnt_zero _).2 (dead_all hv)
  have l1 : ¬ (hs.length > 60) := by omega
  have l3 : ¬ ((hs.length : Int) > 60) := by omega
  have l4 : ¬ ((n : Int) > 100) := by omega
  have l5 : ¬ ((m : Int) > 100) := by omega
  go_enter Try.func6, Try.ntmps6
  go_wp2_with fail
  refine (awake_any w).mono ?_
  rintro e w1 ⟨rfl, hb1⟩
  have B1 : Hid (Below w.heap.size w w1) := Lib.hid hb1
  have z1 := B1.out.size
  have hs1 := hb.below hb1 rfl
  clear hb1 hb
  go_wp2_with fail
  refine (ring_gives A c hs w1 hlen hs1).mono ?_
  rintro e w2 ⟨p, cap, rfl, hc2, hb⟩
  have B2 : Hid (Below w.heap.size w w2) := Lib.hid (B1.out.trans (hb.mono z1))
  have z2 := B2.out.size
  clear hb hs1
  go_wp2_with fail
  refine (order_gives p cap hs last (n : Int) _ w2 hlen (by omega) hc2 ho1).mono ?_
  rintro e w3 ⟨A1, d1, rfl, i1, hb⟩
  have B3 : Hid (Below w.heap.size w w3) := Lib.hid (B2.out.trans (hb.mono z2))
  have z3 := B3.out.size
  have hc3 := hc2.below hb rfl
  clear hb hc2 i1
  go_wp2_with fail
  refine (order_gives p cap hs last ((n : Int) + (m : Int)) _ w3 hlen (by omega) hc3 ho2).mono ?_
  rintro e w4 ⟨A2, d2, rfl, i2, hb⟩
  have B4 : Hid (Below w.heap.size w w4) := Lib.hid (B3.out.trans (hb.mono z3))
  have z4 := B4.out.size
  have hc4 := hc3.below hb rfl
  clear hb hc3 i2
  have R := runnable_any p cap hs w4 hlen hc4
  rw [hk] at R
  go_wp2_with fail
  refine R.mono ?_
  clear R
  rintro e w5 ⟨rfl, hb⟩
  have B5 : Hid (Below w.heap.size w w5) := Lib.hid (B4.out.trans (hb.mono z4))
  clear hb hc4
  go_wp2
  go_ret
  exact ⟨by simp, B5.out⟩
set_option maxRecDepth 100000 in
set_option maxHeartbeats 4000000 in
theorem olaw_not (A : Option Addr) (c k : Nat) (last : Int) (n m : Nat) (w : World) (hm : k ≤ 9223372036854775807) (hn : n < 256) (hm2 : m < 256) (h : 60 < k ∨ (k ≤ 60 ∧ 100 < n) ∨ (k ≤ 60 ∧ n ≤ 100 ∧ 100 < m)) :
    Calls Try.prog 6 #[.slice A k c, .int .i64 last, .int .u8 (n : Int), .int .u8 (m : Int)] w fun e w' => e = .returned (.bool true) ∧ Below w.heap.size w w' := by
  go_enter Try.func6, Try.ntmps6
  go_wp2_with fail
  refine (awake_any w).mono ?_
  rintro e w1 ⟨rfl, hb1⟩
  have B1 : Hid (Below w.heap.size w w1) := Lib.hid hb1
  have z1 := B1.out.size
  clear hb1
  have C : ∀ w1', w1' = w1 → Calls Try.prog 7 #[] w1' fun e w' => e = .returned (.bool true) ∧ Below w.heap.size w w' := fun w1' e => by
    subst e
    exact (awake_any _).mono fun e w' ⟨he, hb⟩ => ⟨he, B1.out.trans (hb.mono z1)⟩
  rcases h with h | ⟨h1, h2⟩ | ⟨h1, h2, h3⟩
  · have l3 : (k : Int) > 60 := by omega
    have l1 : k > 60 := h
    go_wp2_with fail
    refine (C _ rfl).mono ?_
    rintro e w2 ⟨rfl, hb⟩
    have B2 := Lib.hid hb
    clear hb C
    go_wp2
    go_ret
    exact ⟨rfl, B2.out⟩
  · have l3 : ¬ ((k : Int) > 60) := by omega
    have l1 : ¬ (k > 60) := by omega
    have l4 : (n : Int) > 100 := by omega
    have l5 : n > 100 := by omega
    go_wp2_with fail
    refine (C _ rfl).mono ?_
    rintro e w2 ⟨rfl, hb⟩
    have B2 := Lib.hid hb
    clear hb C
    go_wp2
    go_ret
    exact ⟨rfl, B2.out⟩
  · have l3 : ¬ ((k : Int) > 60) := by omega
    have l1 : ¬ (k > 60) := by omega
    have l4 : ¬ ((n : Int) > 100) := by omega
    have l5 : ¬ (n > 100) := by omega
    have l6 : (m : Int) > 100 := by omega
    have l7 : m > 100 := by omega
    go_wp2_with fail
    refine (C _ rfl).mono ?_
    rintro e w2 ⟨rfl, hb⟩
    have B2 := Lib.hid hb
    clear hb C
    go_wp2
    go_ret
    exact ⟨rfl, B2.out⟩
theorem wf_u8 {x : Int} (h : (Lit.int .u8 x).wf = true) : ∃ n : Nat, n < 256 ∧ x = (n : Int) := by
  simp [Lit.wf, IntKind.min, IntKind.max, IntKind.bits, IntKind.signed] at h
  exact ⟨x.toNat, by omega, by omega⟩
theorem olaw (A : Option Addr) (c : Nat) (hs : List Bool) (last x y : Int) (w : World) (hk : hs.length ≤ 9223372036854775807) (hb : Bs w A hs) (hx : (Lit.int .u8 x).wf = true) (hy : (Lit.int .u8 y).wf = true) :
    Calls Try.prog 6 #[.slice A hs.length c, .int .i64 last, .int .u8 x, .int .u8 y] w fun e w' => e = .returned (.bool true) ∧ Below w.heap.size w w' := by
  obtain ⟨n, hn, rfl⟩ := wf_u8 hx
  obtain ⟨m, hm, rfl⟩ := wf_u8 hy
  by_cases h1 : hs.length ≤ 60
  · by_cases h2 : n ≤ 100
    · by_cases h3 : m ≤ 100
      · by_cases hv : live hs
        · exact olaw_live A c hs last n m w hb h1 h2 h3 hv
        · exact olaw_dead A c hs last n m w hb h1 h2 h3 hv
      · exact olaw_not A c _ last n m w hk hn hm (.inr (.inr ⟨h1, h2, by omega⟩))
    · exact olaw_not A c _ last n m w hk hn hm (.inr (.inl ⟨h1, by omega⟩))
  · exact olaw_not A c _ last n m w hk hn hm (.inl (by omega))
end Go.Proofs.Ytppaegfmmegabaa.Sched
