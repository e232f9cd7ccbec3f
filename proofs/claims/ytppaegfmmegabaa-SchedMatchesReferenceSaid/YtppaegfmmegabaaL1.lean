/- The law SchedMatchesReference, walked. -/
import Derived.Test.YtppaegfmmegabaaAwk
namespace Go.Proofs.Ytppaegfmmegabaa.Sched
open Go Go.RowKit Go.Shelf Go.Proofs.YtppaegfmmegabaaW.PrintWords Go.Proofs.YtppaegfmmegabaaW.PrintLast Go.Proofs.YtppaegfmmegabaaW.PrintMore
set_option linter.unusedVariables false
set_option linter.unusedSimpArgs false
set_option maxRecDepth 100000 in
set_option maxHeartbeats 4000000 in
theorem mlaw_main (A : Option Addr) (c : Nat) (hs : List Bool) (last n : Int) (w : World) (hb : Bs w A hs) (hl : hs.length ≤ 60) (hn : n ≤ 200) :
    Calls Try.prog 3 #[.slice A hs.length c, .int .i64 last, .int .i64 n] w fun e w' => e = .returned (.bool true) ∧ Below w.heap.size w w' := by
  obtain ⟨⟨a, b⟩, hN⟩ : ∃ r, nxt hs last = r := ⟨_, rfl⟩
  obtain ⟨o, ho⟩ : ∃ o, od hs last n = o := ⟨_, rfl⟩
  have hol : o.length ≤ 1000 := by
    rw [← ho]
    by_cases h : live hs
    · rw [od_live h, ol_len]; omega
    · rw [od_dead h]; simp
  obtain ⟨k, hk⟩ : ∃ k, cnt hs hs.length = k := ⟨_, rfl⟩
  have l1 : ¬ (hs.length > 60) := by omega
  have l2 : ¬ (n > 200) := by omega
  have l3 : ¬ ((hs.length : Int) > 60) := by omega
  have hlen : hs.length ≤ 1000 := by omega
  go_enter Try.func3, Try.ntmps3
  go_wp2_with fail
  refine (awake_any w).mono ?_
  rintro e w1 ⟨rfl, hb1⟩
  have B1 : Hid (Below w.heap.size w w1) := Lib.hid hb1
  have z1 := B1.out.size
  have hs1 := hb.below hb1 rfl
  clear hb1 hb
  go_wp2_with fail
  refine (ring_gives A c hs w1 hlen hs1).mono ?_
  rintro e w2 ⟨p, cap, rfl, hc2, hb⟩
  have B2 : Hid (Below w.heap.size w w2) := Lib.hid (B1.out.trans (hb.mono z1))
  have z2 := B2.out.size
  clear hb hs1
  go_wp2_with fail
  refine (next_gives p cap hs last a b w2 hlen hc2 hN).mono ?_
  rintro e w3 ⟨rfl, hb⟩
  have B3 : Hid (Below w.heap.size w w3) := Lib.hid (B2.out.trans (hb.mono z2))
  have z3 := B3.out.size
  have hc3 := hc2.below hb rfl
  clear hb hc2
  have R := rnext_any p cap hs last w3 hlen hc3
  rw [hN] at R
  go_wp2_with fail
  refine R.mono ?_
  clear R
  rintro e w4 ⟨rfl, hb⟩
  have B4 : Hid (Below w.heap.size w w4) := Lib.hid (B3.out.trans (hb.mono z3))
  have z4 := B4.out.size
  have hc4 := hc3.below hb rfl
  clear hb hc3
  have R := runnable_any p cap hs w4 hlen hc4
  rw [hk] at R
  go_wp2_with fail
  refine R.mono ?_
  clear R
  rintro e w5 ⟨rfl, hb⟩
  have B5 : Hid (Below w.heap.size w w5) := Lib.hid (B4.out.trans (hb.mono z4))
  have z5 := B5.out.size
  have hc5 := hc4.below hb rfl
  clear hb hc4
  have R := left_any p cap hs w5 hlen hc5
  rw [hk] at R
  go_wp2_with fail
  refine R.mono ?_
  clear R
  rintro e w6 ⟨rfl, hb⟩
  have B6 : Hid (Below w.heap.size w w6) := Lib.hid (B5.out.trans (hb.mono z5))
  have z6 := B6.out.size
  have hc6 := hc5.below hb rfl
  clear hb hc5
  go_wp2_with fail
  refine (order_gives p cap hs last n o w6 hlen (by omega) hc6 ho).mono ?_
  rintro e w7 ⟨A1, d1, rfl, i1, hb⟩
  have B7 : Hid (Below w.heap.size w w7) := Lib.hid (B6.out.trans (hb.mono z6))
  have z7 := B7.out.size
  have hc7 := hc6.below hb rfl
  clear hb hc6
  go_wp2_with fail
  refine (rorder_gives p cap hs last n o w7 hlen (by omega) hc7 ho).mono ?_
  rintro e w8 ⟨A2, d2, rfl, i2, hb⟩
  have B8 : Hid (Below w.heap.size w w8) := Lib.hid (B7.out.trans (hb.mono z7))
  have z8 := B8.out.size
  have i1' := i1.below hb (Nat.le_refl _)
  clear hb hc7 i1
  have S := same_any A1 A2 d1 d2 o o w8 hol hol i1' i2
  rw [show decide (o = o) = true by simp] at S
  go_wp2_with fail
  refine S.mono ?_
  clear S
  rintro e w9 ⟨rfl, hb⟩
  have B9 : Hid (Below w.heap.size w w9) := Lib.hid (B8.out.trans (hb.mono z8))
  clear hb i1' i2
  go_wp2
  go_ret
  exact ⟨by simp, B9.out⟩
set_option maxRecDepth 100000 in
set_option maxHeartbeats 4000000 in
theorem mlaw_not (A : Option Addr) (c m : Nat) (last n : Int) (w : World) (hm : m ≤ 9223372036854775807) (h : 60 < m ∨ (m ≤ 60 ∧ 200 < n)) :
    Calls Try.prog 3 #[.slice A m c, .int .i64 last, .int .i64 n] w fun e w' => e = .returned (.bool true) ∧ Below w.heap.size w w' := by
  go_enter Try.func3, Try.ntmps3
  go_wp2_with fail
  refine (awake_any w).mono ?_
  rintro e w1 ⟨rfl, hb1⟩
  have B1 : Hid (Below w.heap.size w w1) := Lib.hid hb1
  have z1 := B1.out.size
  clear hb1
  rcases h with h | ⟨h1, h2⟩
  · have l1 : m > 60 := h
    have l3 : (m : Int) > 60 := by omega
    go_wp2_with fail
    refine (awake_any w1).mono ?_
    rintro e w2 ⟨rfl, hb⟩
    have B2 : Hid (Below w.heap.size w w2) := Lib.hid (B1.out.trans (hb.mono z1))
    clear hb
    go_wp2
    go_ret
    exact ⟨rfl, B2.out⟩
  · have l1 : ¬ (m > 60) := by omega
    have l3 : ¬ ((m : Int) > 60) := by omega
    have l4 : n > 200 := h2
    go_wp2_with fail
    refine (awake_any w1).mono ?_
    rintro e w2 ⟨rfl, hb⟩
    have B2 : Hid (Below w.heap.size w w2) := Lib.hid (B1.out.trans (hb.mono z1))
    clear hb
    go_wp2
    go_ret
    exact ⟨rfl, B2.out⟩
theorem mlaw (A : Option Addr) (c : Nat) (hs : List Bool) (last n : Int) (w : World) (hm : hs.length ≤ 9223372036854775807) (hb : Bs w A hs) :
    Calls Try.prog 3 #[.slice A hs.length c, .int .i64 last, .int .i64 n] w fun e w' => e = .returned (.bool true) ∧ Below w.heap.size w w' := by
  by_cases h1 : hs.length ≤ 60
  · by_cases h2 : n ≤ 200
    · exact mlaw_main A c hs last n w hb h1 h2
    · exact mlaw_not A c _ last n w hm (.inr ⟨h1, by omega⟩)
  · exact mlaw_not A c _ last n w hm (.inl (by omega))
end Go.Proofs.Ytppaegfmmegabaa.Sched
