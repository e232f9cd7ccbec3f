/- The law SchedRoundRobinIsFair, walked; a turn of the ring comes to each runnable guest once. -/
import Derived.Test.YtppaegfmmegabaaL2
namespace Go.Proofs.Ytppaegfmmegabaa.Sched
open Go Go.RowKit Go.Shelf
set_option linter.unusedVariables false
set_option linter.unusedSimpArgs false
theorem cnt_const {hs : List Bool} {x : Nat} : ∀ y, x ≤ y → (∀ q, x ≤ q → q < y → hs[q]?.getD false = true) → cnt hs y = cnt hs x
  | 0, h, _ => by rw [show x = 0 by omega]
  | y + 1, h, hq => by
    by_cases e : x = y + 1
    · rw [e]
    · have ih := cnt_const (hs := hs) (x := x) y (by omega) (fun q h1 h2 => hq q h1 (by omega))
      show cnt hs y + (if hs[y]?.getD false = true then 0 else 1) = cnt hs x
      rw [if_pos (hq y (by omega) (by omega)), ih]; rfl
theorem cnt_succ {hs : List Bool} {a : Nat} (h : hs[a]?.getD false = false) : cnt hs (a + 1) = cnt hs a + 1 := by
  show cnt hs a + (if hs[a]?.getD false = true then 0 else 1) = cnt hs a + 1
  rw [if_neg (by rw [h]; decide)]
theorem cnt_mono {hs : List Bool} {x : Nat} : ∀ y, x ≤ y → cnt hs x ≤ cnt hs y
  | 0, h => by rw [show x = 0 by omega]; exact Nat.le_refl _
  | y + 1, h => by
    by_cases e : x = y + 1
    · rw [e]; exact Nat.le_refl _
    · have ih := cnt_mono (hs := hs) (x := x) y (by omega)
      have : cnt hs y ≤ cnt hs (y + 1) := by show _ ≤ cnt hs y + _; omega
      omega
theorem rank_lt {hs : List Bool} {a : Nat} (ha : a < hs.length) (h : hs[a]?.getD false = false) : cnt hs a < cnt hs hs.length := by
  have := cnt_mono (hs := hs) (x := a + 1) hs.length ha
  rw [cnt_succ h] at this
  omega
theorem rank_inj {hs : List Bool} {a b : Nat} (ha : hs[a]?.getD false = false) (hb : hs[b]?.getD false = false) (h : cnt hs a = cnt hs b) : a = b := by
  by_cases h1 : a < b
  · have := cnt_mono (hs := hs) (x := a + 1) b h1
    rw [cnt_succ ha] at this
    omega
  · by_cases h2 : b < a
    · have := cnt_mono (hs := hs) (x := b + 1) a h2
      rw [cnt_succ hb] at this
      omega
    · omega
theorem md {x n : Nat} (hn : 0 < n) (h : x < 2 * n) : x % n = if x < n then x else x - n := by
  split
  · exact Nat.mod_eq_of_lt (by assumption)
  · rw [Nat.mod_eq_sub_mod (by omega), Nat.mod_eq_of_lt (by omega)]
theorem wrap_in (x : Int) (h0 : 0 ≤ x) (h1 : x < 1000) : IntKind.i64.wrap x = x := by rw [IntKind.wrap_i64]; omega
/-- The k-th guest of an order, a number. -/
def ia (hs : List Bool) (last : Int) (k : Nat) : Nat := (nxt hs (it hs last k)).1
theorem ia_live {hs : List Bool} (hl : live hs) (last : Int) (k : Nat) : ia hs last k < hs.length ∧ hs[ia hs last k]?.getD false = false := by
  obtain ⟨a, ha, hf, hn⟩ := nxt_live hl (it hs last k)
  have : ia hs last k = a := by unfold ia; rw [hn]
  rw [this]
  exact ⟨ha, hf⟩
theorem ia_rank {hs : List Bool} (hl : live hs) (last : Int) (k : Nat) : cnt hs (ia hs last (k + 1)) = (cnt hs (ia hs last k) + 1) % cnt hs hs.length := by
  obtain ⟨hm, hfm⟩ := ia_live hl last k
  obtain ⟨a, ha, hf, hn, hch⟩ := nxt_char hm hl
  have e : ia hs last (k + 1) = a := by
    show (nxt hs ((nxt hs (it hs last k)).1 : Int)).1 = a
    show (nxt hs ((ia hs last k : Nat) : Int)).1 = a
    rw [hn]
  rw [e]
  have hr := rank_lt ha hf
  have hs1 := cnt_succ hfm
  rcases hch with ⟨h1, h2⟩ | ⟨h1, h2, h3⟩
  · have := cnt_const (hs := hs) (x := ia hs last k + 1) a (by omega) (fun q q1 q2 => h2 q (by omega) q2)
    rw [Nat.mod_eq_of_lt (by omega)]
    omega
  · have e1 := cnt_const (hs := hs) (x := ia hs last k + 1) hs.length (by omega) (fun q q1 q2 => h2 q (by omega) q2)
    have e2 := cnt_const (hs := hs) (x := 0) a (by omega) (fun q q1 q2 => h3 q q2)
    rw [← hs1, ← e1, Nat.mod_self, e2]
    rfl
theorem ia_ranks {hs : List Bool} (hl : live hs) (last : Int) : ∀ k, cnt hs (ia hs last k) = (cnt hs (ia hs last 0) + k) % cnt hs hs.length
  | 0 => by rw [Nat.add_zero, Nat.mod_eq_of_lt (rank_lt (ia_live hl last 0).1 (ia_live hl last 0).2)]
  | k + 1 => by rw [ia_rank hl, ia_ranks hl last k, Nat.mod_add_mod]; rfl
/-- How often i comes among the first j. -/
def tc (f : Nat → Nat) (i : Nat) : Nat → Nat
  | 0 => 0
  | j + 1 => tc f i j + if f j = i then 1 else 0
theorem tc_le (f : Nat → Nat) (i : Nat) : ∀ j, tc f i j ≤ j
  | 0 => Nat.le_refl _
  | j + 1 => by have := tc_le f i j; unfold tc; split <;> omega
theorem tc_zero {f : Nat → Nat} {i : Nat} : ∀ j, (∀ k, k < j → f k ≠ i) → tc f i j = 0
  | 0, _ => rfl
  | j + 1, h => by unfold tc; rw [tc_zero j (fun k hk => h k (by omega)), if_neg (h j (by omega))]
theorem tc_one {f : Nat → Nat} {i k0 : Nat} : ∀ j, k0 < j → f k0 = i → (∀ k, k < j → f k = i → k = k0) → tc f i j = 1
  | 0, h, _, _ => by omega
  | j + 1, h, hf, hu => by
    unfold tc
    by_cases e : k0 = j
    · subst e
      rw [tc_zero k0 (fun k hk hk2 => by have := hu k (by omega) hk2; omega), if_pos hf]
    · rw [tc_one j (by omega) hf (fun k hk => hu k (by omega)), if_neg (fun h2 => e (hu j (by omega) h2).symm)]
theorem fair (hs : List Bool) (last : Int) (n : Nat) (hn : cnt hs hs.length = n) : ∃ f : Nat → Nat, od hs last (2 * (n : Int)) = (List.range (2 * n)).map (fun k => (f k : Int)) ∧
    (∀ k, k < n → f k < hs.length ∧ f (n + k) = f k) ∧ ∀ i, i < hs.length → tc f i n = if hs[i]?.getD false = true then 0 else 1 := by
  by_cases hl : live hs
  · have h0 : 0 < n := by have := live_cnt.1 hl; omega
    have hr0 := rank_lt (ia_live hl last 0).1 (ia_live hl last 0).2
    have hrk := ia_ranks hl last
    rw [hn] at hr0
    simp only [hn] at hrk
    refine ⟨ia hs last, ?_, fun k hk => ⟨(ia_live hl last k).1, ?_⟩, fun i hi => ?_⟩
    · rw [od_live hl, show (2 * (n : Int)).toNat = 2 * n by omega]
      rfl
    · refine rank_inj (ia_live hl last _).2 (ia_live hl last _).2 ?_
      rw [hrk (n + k), hrk k, show cnt hs (ia hs last 0) + (n + k) = cnt hs (ia hs last 0) + k + n by omega, Nat.add_mod_right]
    · by_cases hh : hs[i]?.getD false = true
      · rw [if_pos hh]
        exact tc_zero n (fun k hk e => by have := (ia_live hl last k).2; rw [e, hh] at this; cases this)
      · rw [if_neg hh]
        have hf : hs[i]?.getD false = false := by simpa using hh
        have hci := rank_lt hi hf
        rw [hn] at hci
        obtain ⟨r, hr⟩ : ∃ r, cnt hs (ia hs last 0) = r := ⟨_, rfl⟩
        obtain ⟨ci, hc⟩ : ∃ ci, cnt hs i = ci := ⟨_, rfl⟩
        rw [hr] at hr0 hrk
        rw [hc] at hci
        have hmd : ∀ k, k < n → (r + k) % n = if r + k < n then r + k else r + k - n := fun k hk => md h0 (by omega)
        refine tc_one (k0 := if r ≤ ci then ci - r else ci + n - r) n (by split <;> omega) ?_ (fun k hk e => ?_)
        · refine rank_inj (ia_live hl last _).2 hf ?_
          rw [hrk, hc, hmd _ (by split <;> omega)]
          split <;> split <;> omega
        · have := hrk k
          rw [e, hc, hmd k hk] at this
          split at this <;> split <;> omega
  · have h0 : cnt hs hs.length = 0 := (cnt_zero _).2 (dead_all hl)
    obtain rfl : n = 0 := by omega
    refine ⟨fun _ => 0, ?_, fun k hk => by omega, fun i hi => ?_⟩
    · rw [od_dead hl]; rfl
    · rw [if_pos (dead_all hl i hi)]; rfl
set_option maxRecDepth 100000 in
set_option maxHeartbeats 4000000 in
theorem flaw_main (A : Option Addr) (c : Nat) (hs : List Bool) (last : Int) (w : World) (hb : Bs w A hs) (hl : hs.length ≤ 60) :
    Calls Try.prog 4 #[.slice A hs.length c, .int .i64 last] w fun e w' => e = .returned (.bool true) ∧ Below w.heap.size w w' := by
  obtain ⟨n, hk⟩ : ∃ n, cnt hs hs.length = n := ⟨_, rfl⟩
  have hn60 : n ≤ 60 := by have := cnt_le hs hs.length; omega
  obtain ⟨f, ho, hf, htc⟩ := fair hs last n hk
  obtain ⟨o, hoo⟩ : ∃ o, (List.range (2 * n)).map (fun k => (f k : Int)) = o := ⟨_, rfl⟩
  have hol : o.length = 2 * n := by rw [← hoo]; simp
  have hoa : ∀ k, k < 2 * n → o[k]?.getD 0 = (f k : Int) := fun k hk => by rw [← hoo, List.getElem?_map, List.getElem?_range hk]; rfl
  rw [hoo] at ho
  clear hoo
  have hlen : hs.length ≤ 1000 := by omega
  have l1 : ¬ (hs.length > 60) := by omega
  have l3 : ¬ ((hs.length : Int) > 60) := by omega
  go_enter Try.func4, Try.ntmps4
  go_wp2_with fail
  refine (awake_any w).mono ?_
  rintro e w1 ⟨rfl, hb1⟩
  have B1 : Hid (Below w.heap.size w w1) := Lib.hid hb1
  have z1 := B1.out.size
  have hs1 := hb.below hb1 rfl
  clear hb1
  go_wp2_with fail
  refine (ring_gives A c hs w1 hlen hs1).mono ?_
  rintro e w2 ⟨p, cap, rfl, hc2, hb'⟩
  have B2 : Hid (Below w.heap.size w w2) := Lib.hid (B1.out.trans (hb'.mono z1))
  have z2 := B2.out.size
  clear hb' hs1
  have R := runnable_any p cap hs w2 hlen hc2
  rw [hk] at R
  go_wp2_with fail
  refine R.mono ?_
  clear R
  rintro e w3 ⟨rfl, hb'⟩
  have B3 : Hid (Below w.heap.size w w3) := Lib.hid (B2.out.trans (hb'.mono z2))
  have z3 := B3.out.size
  have hc3 := hc2.below hb' rfl
  clear hb' hc2
  have R := order_gives p cap hs last (2 * (n : Int)) o w3 hlen (by omega) hc3 ho
  rw [hol] at R
  go_wp2_with fail
  refine R.mono ?_
  clear R
  rintro e w4 ⟨A2, d2, rfl, i2, hb'⟩
  have B4 : Hid (Below w.heap.size w w4) := Lib.hid (B3.out.trans (hb'.mono z3))
  have z4 := B4.out.size
  clear hb' hc3
  have hmk : ∀ u : World, (Instr.makeSlice 30 (.int .i64 (hs.length : Int)) (.int .i64 (hs.length : Int))).run Try.prog u = .ok (.slice (some ⟨u.heap.size, 0, none⟩) hs.length hs.length) (u.alloc (.cells (madeCells #[.int .i64 0] hs.length) 3)) :=
    fun u => run_make_row' 30 3 (.int .i64 0) 8 Try.underlying30 info3 rfl .i64 .i64 hs.length (by omega) (by omega) u
  have hrow := World.rowIs_made w4 (.int .i64 0) hs.length 3
  obtain ⟨B, hB⟩ : ∃ B, w4.heap.size = B := ⟨_, rfl⟩
  have zB : w.heap.size ≤ B := by omega
  have B5 : Hid (Below w.heap.size w (w4.alloc (.cells (madeCells #[.int .i64 0] hs.length) 3))) := Lib.hid (B4.out.alloc z4 _)
  have B54 : Hid (Below B w4 (w4.alloc (.cells (madeCells #[.int .i64 0] hs.length) 3))) := Lib.hid ((Below.refl _ w4).alloc (by omega) _)
  rw [hB] at hrow
  go_wp2
  clear hmk
  go_loopw [9] (fun i wr => ∃ j : Nat, i = .int .i64 j ∧ j ≤ n ∧ wr.rowIs B 3 hs.length (fun i => .int .i64 (tc f i j : Int)) ∧ Below w.heap.size w wr ∧ Below B w4 wr) (fun i _ => n - (intOf i).toNat)
  case atStart => exact ⟨0, rfl, by omega, hrow.congr (fun i hi => rfl), B5.out, B54.out⟩
  case round =>
    obtain ⟨j, rfl, hj, hr, hbr, hbr4⟩ := hrel
    by_cases hjn : j < n
    · obtain ⟨hx, hx2⟩ := hf j hjn
      obtain ⟨x, hxe⟩ : ∃ x, f j = x := ⟨_, rfl⟩
      rw [hxe] at hx hx2
      have i5 := i2.below hbr4 (by omega)
      obtain ⟨a, rfl, hal, hac⟩ := i5 j (by rw [hol]; omega)
      obtain ⟨a', ha', hal', hac'⟩ := i5 (n + j) (by rw [hol]; omega)
      cases ha'
      rw [hoa j (by omega), hxe] at hac
      rw [hoa (n + j) (by omega), hx2] at hac'
      have hcx := hr.cell hx
      have hfx := hr.frozen x
      have htx := tc_le f x j
      have hB1 := Lib.hid (fun nd => (bdrew hbr nd).setCell (p := ⟨B, x, none⟩) zB (.int .i64 ((tc f x j : Int) + 1)))
      have hB2 := Lib.hid (fun nd => (bdrew hbr4 nd).setCell (p := ⟨B, x, none⟩) (Nat.le_refl B) (.int .i64 ((tc f x j : Int) + 1)))
      have HR : Hid (∀ nd, ((wr.drewN nd).setCell ⟨B, x, none⟩ (.int .i64 ((tc f x j : Int) + 1))).rowIs B 3 hs.length (fun i => .int .i64 (tc f i (j + 1) : Int))) := Lib.hid (fun nd => by
        have hr' : (wr.drewN nd).rowIs B 3 hs.length (fun i => .int .i64 (tc f i j : Int)) := hr
        refine (hr'.set x _).congr (fun i hi => ?_)
        show (if i = x then _ else _) = Value.int .i64 ((tc f i j + (if f j = i then 1 else 0) : Nat) : Int)
        by_cases e : i = x
        · rw [if_pos e, if_pos (by rw [hxe, e]), e]; simp
        · rw [if_neg e, if_neg (fun h => e (by rw [← h, hxe]))]; rfl)
      obtain ⟨t, ht⟩ : ∃ t, tc f x j = t := ⟨_, rfl⟩
      rw [ht] at hcx htx hB1 hB2 HR
      have o1 : ¬ ((x : Int) < 0) := by omega
      have o2 : ¬ ((x : Int) ≥ (hs.length : Int)) := by omega
      have o3 : ¬ ((hs.length : Int) ≤ (x : Int)) := by omega
      have e1 : ((x : Int) != (x : Int)) = false := by simp
      have q1 : j < 2 * n := by omega
      have q2 : n + j < 2 * n := by omega
      have q3 : (j : Int) < 2 * (n : Int) := by omega
      have q4 : (n : Int) + (j : Int) < 2 * (n : Int) := by omega
      have q5 : (0 : Int) ≤ (n : Int) + (j : Int) := by omega
      have q6 : ((n : Int) + (j : Int)).toNat = n + j := by omega
      have q8 : IntKind.i64.wrap ((n : Int) + (j : Int)) = (n : Int) + (j : Int) := wrap_in _ (by omega) (by omega)
      clear hr hbr hbr4 i5 hx2 hf htc hoa hb i2
      go_wp2
      go_quiet (fail)
      go_wp2
      go_roundw
      case rel => exact ⟨j + 1, by go_num, by omega, HR.out _, hB1.out _, hB2.out _⟩
      case measure => simp [intOf]; omega
    · obtain rfl : j = n := by omega
      clear i2 hoa hf hrow B5 B54 hbr4
      go_wp2
      go_loopw [10] (fun i wr2 => ∃ q : Nat, i = .int .i64 q ∧ q ≤ hs.length ∧ wr2.rowIs B 3 hs.length (fun i => .int .i64 (tc f i j : Int)) ∧ Below w.heap.size w wr2) (fun i _ => hs.length - (intOf i).toNat)
      case atStart => exact ⟨0, rfl, by omega, hr, hbr⟩
      case round =>
        clear hr hbr
        obtain ⟨q, rfl, hq, hr, hbr⟩ := hrel
        by_cases hqn : q < hs.length
        · have hcq := hr.cell hqn
          rw [htc q hqn] at hcq
          obtain ⟨a, rfl, hal, hac⟩ := (hb.below hbr rfl) q hqn
          have HR := Lib.hid hr
          have HB := Lib.hid hbr
          obtain ⟨b, hbe⟩ : ∃ b, hs[q]?.getD false = b := ⟨_, rfl⟩
          rw [hbe] at hcq hac
          clear hr hbr htc hb
          cases b
          · rw [if_neg (by decide)] at hcq
            go_wp2
            try (go_quiet (fail); go_wp2)
            go_roundw
            case rel => exact ⟨q + 1, by go_num, by omega, HR.out, by repeat (first | exact HB.out | refine bdrew ?_ _)⟩
            case measure => simp [intOf]; omega
          · rw [if_pos rfl] at hcq
            go_wp2
            try (go_quiet (fail); go_wp2)
            go_roundw
            case rel => exact ⟨q + 1, by go_num, by omega, HR.out, by repeat (first | exact HB.out | refine bdrew ?_ _)⟩
            case measure => simp [intOf]; omega
        · obtain rfl : q = hs.length := by omega
          go_wp2
          go_ret
          exact ⟨rfl, hbr⟩
set_option maxRecDepth 100000 in
set_option maxHeartbeats 4000000 in
theorem flaw_not (A : Option Addr) (c k : Nat) (last : Int) (w : World) (hm : k ≤ 9223372036854775807) (h : 60 < k) :
    Calls Try.prog 4 #[.slice A k c, .int .i64 last] w fun e w' => e = .returned (.bool true) ∧ Below w.heap.size w w' := by
  go_enter Try.func4, Try.ntmps4
  go_wp2_with fail
  refine (awake_any w).mono ?_
  rintro e w1 ⟨rfl, hb1⟩
  have B1 : Hid (Below w.heap.size w w1) := Lib.hid hb1
  have z1 := B1.out.size
  clear hb1
  have l3 : (k : Int) > 60 := by omega
  have l1 : k > 60 := h
  go_wp2_with fail
  refine (awake_any w1).mono ?_
  rintro e w2 ⟨rfl, hb⟩
  have B2 : Hid (Below w.heap.size w w2) := Lib.hid (B1.out.trans (hb.mono z1))
  clear hb
  go_wp2
  go_ret
  exact ⟨rfl, B2.out⟩
theorem flaw (A : Option Addr) (c : Nat) (hs : List Bool) (last : Int) (w : World) (hk : hs.length ≤ 9223372036854775807) (hb : Bs w A hs) :
    Calls Try.prog 4 #[.slice A hs.length c, .int .i64 last] w fun e w' => e = .returned (.bool true) ∧ Below w.heap.size w w' := by
  by_cases h1 : hs.length ≤ 60
  · exact flaw_main A c hs last w hb h1
  · exact flaw_not A c _ last w hk (by omega)
end Go.Proofs.Ytppaegfmmegabaa.Sched
