/- The law's examples (awake) hold. -/
import Derived.Test.YtppaegfmmegabaaOrd
namespace Go.Proofs.Ytppaegfmmegabaa.Sched
open Go Go.RowKit Go.Shelf Go.Proofs.YtppaegfmmegabaaW.PrintWords Go.Proofs.YtppaegfmmegabaaW.PrintLast Go.Proofs.YtppaegfmmegabaaW.PrintMore
set_option linter.unusedVariables false
set_option linter.unusedSimpArgs false
theorem ring_gives (A : Option Addr) (c : Nat) (hs : List Bool) (w : World) (hlen : hs.length ≤ 1000) (hb : Bs w A hs) :
    Calls Try.prog 8 #[.slice A hs.length c] w fun e w' => ∃ p cap, e = .returned (.slice p hs.length cap) ∧ Cs w' p hs ∧ Below w.heap.size w w' :=
  (ring_makes A c hs w hlen hb).mono fun e w' ⟨v, he, hown, hbw⟩ => by
    obtain ⟨p, cap, rfl, hc⟩ := rg_open hown
    exact ⟨p, cap, he, hc, hbw⟩
theorem order_gives (p : Option Addr) (c : Nat) (hs : List Bool) (last n : Int) (o : List Int) (w : World) (hlen : hs.length ≤ 1000) (hn : n ≤ 1000) (hb : Cs w p hs) (ho : od hs last n = o) :
    Calls Try.prog 14 #[.slice p hs.length c, .int .i64 last, .int .i64 n] w fun e w' => ∃ A d, e = .returned (.slice A o.length d) ∧ Is w' A o ∧ Below w.heap.size w w' := by
  subst ho
  exact (order_any p c hs last n w hlen hn hb).mono fun e w' ⟨v, he, hown, hbw⟩ => by
    obtain ⟨A, d, rfl, hi⟩ := is_open hown
    exact ⟨A, d, he, hi, hbw⟩
theorem rorder_gives (p : Option Addr) (c : Nat) (hs : List Bool) (last n : Int) (o : List Int) (w : World) (hlen : hs.length ≤ 1000) (hn : n ≤ 1000) (hb : Cs w p hs) (ho : od hs last n = o) :
    Calls Try.prog 15 #[.slice p hs.length c, .int .i64 last, .int .i64 n] w fun e w' => ∃ A d, e = .returned (.slice A o.length d) ∧ Is w' A o ∧ Below w.heap.size w w' := by
  subst ho
  exact (rorder_any p c hs last n w hlen hn hb).mono fun e w' ⟨v, he, hown, hbw⟩ => by
    obtain ⟨A, d, rfl, hi⟩ := is_open hown
    exact ⟨A, d, he, hi, hbw⟩
theorem next_gives (p : Option Addr) (c : Nat) (hs : List Bool) (last : Int) (a : Nat) (b : Bool) (w : World) (hlen : hs.length ≤ 1000) (hb : Cs w p hs) (h : nxt hs last = (a, b)) :
    Calls Try.prog 9 #[.slice p hs.length c, .int .i64 last] w fun e w' => e = .returned (.tuple #[.int .i64 (a : Int), .bool b]) ∧ Below w.heap.size w w' := by
  have := next_any hs p c last w hlen hb.flag
  rw [h] at this
  exact this
theorem bs_new (w : World) (hs : List Bool) (t : TypeId) : Bs (w.alloc (.cells (hs.map Value.bool).toArray t)) (some ⟨w.heap.size, 0, none⟩) hs := by
  intro k hk
  refine ⟨_, rfl, by simp, ?_⟩
  exact cells_new w (hs.map Value.bool) t k _ (by rw [List.getElem?_map, List.getElem?_eq_getElem hk]; rfl)
theorem is_new (w : World) (xs : List Int) (t : TypeId) : Is (w.alloc (.cells (xs.map (Value.int .i64)).toArray t)) (some ⟨w.heap.size, 0, none⟩) xs := by
  intro k hk
  refine ⟨_, rfl, by simp, ?_⟩
  exact cells_new w (xs.map (Value.int .i64)) t k _ (by rw [List.getElem?_map, List.getElem?_eq_getElem hk]; rfl)
def f010 : List Bool := [false, true, false]
theorem live010 : live f010 := ⟨0, by decide, by decide⟩
theorem od010 : od f010 0 3 = [2, 0, 2] := by rw [od_live live010]; decide
theorem od010' : od f010 0 (-1) = [] := by rw [od_live live010]; decide
set_option maxRecDepth 100000 in
set_option maxHeartbeats 4000000 in
theorem awake_any (w : World) : Calls Try.prog 7 #[] w fun e w' => e = .returned (.bool true) ∧ Below w.heap.size w w' := by
  go_enter Try.func7, Try.ntmps7
  go_wp2_with fail
  refine (ring_gives _ _ f010 _ (by decide) (bs_new w f010 4)).mono ?_
  rintro e w1 ⟨p, cap, rfl, hc1, hb⟩
  have B1 : Hid (Below w.heap.size w w1) := Lib.hid (((Below.refl _ w).alloc (Nat.le_refl _) _).trans (hb.mono (by simp)))
  have z1 := B1.out.size
  clear hb
  go_wp2_with fail
  refine (next_gives p cap f010 0 2 true w1 (by decide) hc1 (by decide)).mono ?_
  rintro e w2 ⟨rfl, hb⟩
  have B2 : Hid (Below w.heap.size w w2) := Lib.hid (B1.out.trans (hb.mono z1))
  have z2 := B2.out.size
  have hc2 := hc1.below hb rfl
  clear hb hc1
  go_wp2_with fail
  refine (next_gives p cap f010 2 0 true w2 (by decide) hc2 (by decide)).mono ?_
  rintro e w3 ⟨rfl, hb⟩
  have B3 : Hid (Below w.heap.size w w3) := Lib.hid (B2.out.trans (hb.mono z2))
  have z3 := B3.out.size
  have hc3 := hc2.below hb rfl
  clear hb hc2
  go_wp2_with fail
  refine (next_gives p cap f010 (-9) 0 true w3 (by decide) hc3 (by decide)).mono ?_
  rintro e w4 ⟨rfl, hb⟩
  have B4 : Hid (Below w.heap.size w w4) := Lib.hid (B3.out.trans (hb.mono z3))
  have z4 := B4.out.size
  have hc4 := hc3.below hb rfl
  clear hb hc3
  go_wp2_with fail
  refine (next_gives p cap f010 3 0 true w4 (by decide) hc4 (by decide)).mono ?_
  rintro e w5 ⟨rfl, hb⟩
  have B5 : Hid (Below w.heap.size w w5) := Lib.hid (B4.out.trans (hb.mono z4))
  have z5 := B5.out.size
  have hc5 := hc4.below hb rfl
  clear hb hc4
  go_wp2_with fail
  refine (ring_gives _ _ [true] _ (by decide) (bs_new w5 [true] 4)).mono ?_
  rintro e w6 ⟨q, qcap, rfl, hq6, hb⟩
  have hb' : Below w5.heap.size w5 w6 := ((Below.refl _ w5).alloc (Nat.le_refl _) _).trans (hb.mono (by simp))
  have B6 : Hid (Below w.heap.size w w6) := Lib.hid (B5.out.trans (hb'.mono z5))
  have z6 := B6.out.size
  have hc6 := hc5.below hb' rfl
  clear hb hb' hc5
  go_wp2_with fail
  refine (next_gives q qcap [true] 0 0 false w6 (by decide) hq6 (by decide)).mono ?_
  rintro e w7 ⟨rfl, hb⟩
  have B7 : Hid (Below w.heap.size w w7) := Lib.hid (B6.out.trans (hb.mono z6))
  have z7 := B7.out.size
  have hc7 := hc6.below hb rfl
  clear hb hc6 hq6
  go_wp2_with fail
  refine (next_gives _ _ [] 0 0 false _ (by decide) (fun k hk => by simp at hk) (by decide)).mono ?_
  rintro e w8 ⟨rfl, hb⟩
  have hb' : Below w7.heap.size w7 w8 := ((Below.refl _ w7).alloc (Nat.le_refl _) _).trans (hb.mono (by simp))
  have B8 : Hid (Below w.heap.size w w8) := Lib.hid (B7.out.trans (hb'.mono z7))
  have z8 := B8.out.size
  have hc8 := hc7.below hb' rfl
  clear hb hb' hc7
  go_wp2_with fail
  refine (runnable_any p cap f010 w8 (by decide) hc8).mono ?_
  rw [show cnt f010 f010.length = 2 by decide]
  rintro e w9 ⟨rfl, hb⟩
  have B9 : Hid (Below w.heap.size w w9) := Lib.hid (B8.out.trans (hb.mono z8))
  have z9 := B9.out.size
  have hc9 := hc8.below hb rfl
  clear hb hc8
  go_wp2_with fail
  refine (order_gives p cap f010 0 3 [2, 0, 2] w9 (by decide) (by decide) hc9 od010).mono ?_
  rintro e w10 ⟨A, d, rfl, hi, hb⟩
  have B10 : Hid (Below w.heap.size w w10) := Lib.hid (B9.out.trans (hb.mono z9))
  have z10 := B10.out.size
  have hc10 := hc9.below hb rfl
  clear hb hc9
  go_wp2_with fail
  refine (same_any A _ d _ [2, 0, 2] [2, 0, 2] _ (by decide) (by decide) (hi.below ((Below.refl _ w10).alloc (Nat.le_refl _) _) (Nat.le_refl _)) (is_new w10 [2, 0, 2] 3)).mono ?_
  rw [show decide (([2, 0, 2] : List Int) = [2, 0, 2]) = true by decide]
  rintro e w11 ⟨rfl, hb⟩
  have hb' : Below w10.heap.size w10 w11 := ((Below.refl _ w10).alloc (Nat.le_refl _) _).trans (hb.mono (by simp))
  have B11 : Hid (Below w.heap.size w w11) := Lib.hid (B10.out.trans (hb'.mono z10))
  have z11 := B11.out.size
  have hc11 := hc10.below hb' rfl
  clear hb hb' hc10 hi
  go_wp2_with fail
  refine (order_gives p cap f010 0 (-1) [] w11 (by decide) (by decide) hc11 od010').mono ?_
  rintro e w12 ⟨A2, d2, rfl, hi, hb⟩
  have B12 : Hid (Below w.heap.size w w12) := Lib.hid (B11.out.trans (hb.mono z11))
  clear hb hc11 hi
  go_wp2
  go_ret
  exact ⟨by simp, B12.out⟩
end Go.Proofs.Ytppaegfmmegabaa.Sched
