/- The reference Next, Left and Same, walked; what Next answers is what sched.Next answers. -/
import Derived.Test.YtppaegfmmegabaaRun
import Derived.Test.YtppaegfmmegabaaWMore
namespace Go.Proofs.Ytppaegfmmegabaa.Sched
open Go Go.RowKit Go.Shelf Go.Proofs.YtppaegfmmegabaaW.PrintWords Go.Proofs.YtppaegfmmegabaaW.PrintLast Go.Proofs.YtppaegfmmegabaaW.PrintMore
set_option linter.unusedVariables false
set_option linter.unusedSimpArgs false
/-- Where the reference begins: fr; what that is to the ring. -/
structure Fr (hs : List Bool) (last : Int) (fr : Nat) : Prop where
  le : fr ≤ hs.length
  up : ∀ k, k < hs.length - fr → (st hs.length last + 1 + k) % hs.length = fr + k
  lo : ∀ i, i < fr → (st hs.length last + 1 + (hs.length - fr + i)) % hs.length = i
theorem fr_out {hs : List Bool} {last : Int} (ho : last < 0 ∨ last ≥ (hs.length : Int)) : Fr hs last 0 := by
  refine ⟨Nat.zero_le _, fun k hk => ?_, fun i hi => absurd hi (Nat.not_lt_zero _)⟩
  rw [st_out ho, show hs.length - 1 + 1 + k = hs.length + k by omega, Nat.add_mod_left, Nat.mod_eq_of_lt (by omega)]
  omega
theorem fr_in {hs : List Bool} {m : Nat} (hm : m < hs.length) : Fr hs (m : Int) (m + 1) := by
  have e : st hs.length (m : Int) = m := by have := st_in (n := hs.length) (last := (m : Int)) (by omega) (by omega); omega
  refine ⟨hm, fun k hk => ?_, fun i hi => ?_⟩
  · rw [e, Nat.mod_eq_of_lt (by omega)]
  · rw [e, show m + 1 + (hs.length - (m + 1) + i) = hs.length + i by omega, Nat.add_mod_left, Nat.mod_eq_of_lt (by omega)]
theorem nxt_up {hs : List Bool} {last : Int} {fr j : Nat} (F : Fr hs last fr) (hj : fr ≤ j) (hn : j < hs.length) (h : hs[j]?.getD false = false) (hall : ∀ q, fr ≤ q → q < j → hs[q]?.getD false = true) : nxt hs last = (j, true) := by
  have e := F.up (j - fr) (by omega)
  rw [show fr + (j - fr) = j by omega] at e
  have := nxt_some (hs := hs) (last := last) (k := j - fr) (by omega) (by rw [e]; exact h) (fun q hq => by rw [F.up q (by omega)]; exact hall _ (by omega) (by omega))
  rw [this, e]
theorem nxt_lo {hs : List Bool} {last : Int} {fr j : Nat} (F : Fr hs last fr) (hj : j < fr) (h : hs[j]?.getD false = false) (hall : ∀ q, fr ≤ q → q < hs.length → hs[q]?.getD false = true) (hall2 : ∀ q, q < j → hs[q]?.getD false = true) : nxt hs last = (j, true) := by
  have hl := F.le
  have e := F.lo j hj
  have := nxt_some (hs := hs) (last := last) (k := hs.length - fr + j) (by omega) (by rw [e]; exact h) (fun q hq => by
    by_cases hq2 : q < hs.length - fr
    · rw [F.up q hq2]; exact hall _ (by omega) (by omega)
    · have e2 := F.lo (q - (hs.length - fr)) (by omega)
      rw [show hs.length - fr + (q - (hs.length - fr)) = q by omega] at e2
      rw [e2]; exact hall2 _ (by omega))
  rw [this, e]
theorem nxt_no {hs : List Bool} {last : Int} {fr : Nat} (F : Fr hs last fr) (hall : ∀ q, fr ≤ q → q < hs.length → hs[q]?.getD false = true) (hall2 : ∀ q, q < fr → hs[q]?.getD false = true) : nxt hs last = (0, false) := by
  have hl := F.le
  refine nxt_none fun q hq => ?_
  by_cases hq2 : q < hs.length - fr
  · rw [F.up q hq2]; exact hall _ (by omega) (by omega)
  · have e2 := F.lo (q - (hs.length - fr)) (by omega)
    rw [show hs.length - fr + (q - (hs.length - fr)) = q by omega] at e2
    rw [e2]; exact hall2 _ (by omega)
theorem bdrew {B : Nat} {a w : World} (h : Below B a w) (n : Nat) : Below B a (w.drewN n) := ⟨h.os, h.tape, h.output, h.size, h.block⟩
set_option maxRecDepth 100000 in
set_option maxHeartbeats 2000000 in
theorem left_any (p : Option Addr) (c : Nat) (hs : List Bool) (w : World) (hlen : hs.length ≤ 1000) (hb : Cs w p hs) :
    Calls Try.prog 12 #[.slice p hs.length c] w fun e w' => e = .returned (.int .i64 (cnt hs hs.length)) ∧ Below w.heap.size w w' := by
  go_enter Try.func12, Try.ntmps12
  go_wp2
  go_loopw [3, 4] (fun n i wr => ∃ k : Nat, k ≤ hs.length ∧ i = .int .i64 k ∧ n = .int .i64 (cnt hs k) ∧ Below w.heap.size w wr) (fun _ i _ => hs.length - (intOf i).toNat)
  case atStart => exact ⟨0, by omega, rfl, rfl, Below.refl _ _⟩
  case round =>
    obtain ⟨k, hk, rfl, rfl, hbr⟩ := hrel
    by_cases hlt : k < hs.length
    · obtain ⟨b, rfl, hal, hac⟩ := (hb.below hbr rfl).flag k hlt
      obtain ⟨f, hf⟩ : ∃ f, hs[k]?.getD false = f := ⟨_, rfl⟩
      have hcnt : cnt hs (k + 1) = cnt hs k + if f = true then 0 else 1 := by rw [← hf]; rfl
      have hle := cnt_le hs k
      rw [hf] at hac
      cases f
      · rw [if_neg (by decide)] at hcnt
        go_wp2
        go_roundw
        case rel => exact ⟨k + 1, by omega, by go_num, by rw [hcnt]; go_num, hbr⟩
        case measure => simp [intOf]; omega
      · rw [if_pos rfl] at hcnt
        go_wp2
        go_roundw
        case rel => exact ⟨k + 1, by omega, by go_num, by rw [hcnt]; rfl, hbr⟩
        case measure => simp [intOf]; omega
    · obtain rfl : k = hs.length := by omega
      go_wp2
      go_ret
      exact ⟨rfl, hbr⟩
set_option maxRecDepth 100000 in
set_option maxHeartbeats 2000000 in
theorem rnext_any (p : Option Addr) (c : Nat) (hs : List Bool) (last : Int) (w : World) (hlen : hs.length ≤ 1000) (hb : Cs w p hs) :
    Calls Try.prog 10 #[.slice p hs.length c, .int .i64 last] w fun e w' => e = .returned (.tuple #[.int .i64 ((nxt hs last).1 : Int), .bool (nxt hs last).2]) ∧ Below w.heap.size w w' := by
  by_cases ho : last < 0 ∨ last ≥ (hs.length : Int)
  · have F := fr_out ho
    go_enter Try.func10, Try.ntmps10
    by_cases o1 : last < 0
    · go_wp2
      go_loopw [7] (fun i wr => ∃ j : Nat, 0 ≤ j ∧ j ≤ hs.length ∧ i = .int .i64 j ∧ (∀ q, 0 ≤ q → q < j → hs[q]?.getD false = true) ∧ Below w.heap.size w wr) (fun i _ => hs.length - (intOf i).toNat)
      case atStart => exact ⟨0, by omega, F.le, by first | rfl | go_num, fun q _ _ => by omega, Below.refl _ _⟩
      case round =>
        obtain ⟨j, hj0, hj, rfl, hall, hbr⟩ := hrel
        by_cases hlt : j < hs.length
        · obtain ⟨b, rfl, hal, hac⟩ := (hb.below hbr rfl).flag j hlt
          obtain ⟨f, hf⟩ : ∃ f, hs[j]?.getD false = f := ⟨_, rfl⟩
          rw [hf] at hac
          cases f
          · have e := nxt_up F hj0 hlt hf hall
            go_wp2
            go_ret2
            exact ⟨by rw [e]; rfl, hbr⟩
          · go_wp2
            go_roundw
            case rel => exact ⟨j + 1, by omega, by omega, by go_num, fun q h1 h2 => by
              by_cases hq : q < j
              · exact hall q h1 hq
              · obtain rfl : q = j := by omega
                exact hf, hbr⟩
            case measure => simp [intOf]; omega
        · obtain rfl : j = hs.length := by omega
          go_wp2
          go_loopw [8] (fun i wr => ∃ i' : Nat, i' ≤ 0 ∧ i = .int .i64 i' ∧ (∀ q, q < i' → hs[q]?.getD false = true) ∧ Below w.heap.size w wr) (fun i _ => 0 - (intOf i).toNat)
          case atStart => exact ⟨0, by omega, rfl, fun q _ => by omega, hbr⟩
          case round =>
            obtain ⟨i, hi, rfl, hall2, hbr⟩ := hrel
            by_cases hlt2 : i < 0
            · exact absurd hlt2 (by omega)
            · obtain rfl : i = 0 := by omega
              have e := nxt_no F (fun q h1 h2 => hall q h1 h2) hall2
              go_wp2
              go_ret2
              exact ⟨by rw [e]; rfl, hbr⟩
    · have o2 : last ≥ (hs.length : Int) := ho.resolve_left o1
      have o3 : (hs.length : Int) ≤ last := o2
      go_wp2
      go_loopw [7] (fun i wr => ∃ j : Nat, 0 ≤ j ∧ j ≤ hs.length ∧ i = .int .i64 j ∧ (∀ q, 0 ≤ q → q < j → hs[q]?.getD false = true) ∧ Below w.heap.size w wr) (fun i _ => hs.length - (intOf i).toNat)
      case atStart => exact ⟨0, by omega, F.le, by first | rfl | go_num, fun q _ _ => by omega, Below.refl _ _⟩
      case round =>
        obtain ⟨j, hj0, hj, rfl, hall, hbr⟩ := hrel
        by_cases hlt : j < hs.length
        · obtain ⟨b, rfl, hal, hac⟩ := (hb.below hbr rfl).flag j hlt
          obtain ⟨f, hf⟩ : ∃ f, hs[j]?.getD false = f := ⟨_, rfl⟩
          rw [hf] at hac
          cases f
          · have e := nxt_up F hj0 hlt hf hall
            go_wp2
            go_ret2
            exact ⟨by rw [e]; rfl, hbr⟩
          · go_wp2
            go_roundw
            case rel => exact ⟨j + 1, by omega, by omega, by go_num, fun q h1 h2 => by
              by_cases hq : q < j
              · exact hall q h1 hq
              · obtain rfl : q = j := by omega
                exact hf, hbr⟩
            case measure => simp [intOf]; omega
        · obtain rfl : j = hs.length := by omega
          go_wp2
          go_loopw [8] (fun i wr => ∃ i' : Nat, i' ≤ 0 ∧ i = .int .i64 i' ∧ (∀ q, q < i' → hs[q]?.getD false = true) ∧ Below w.heap.size w wr) (fun i _ => 0 - (intOf i).toNat)
          case atStart => exact ⟨0, by omega, rfl, fun q _ => by omega, hbr⟩
          case round =>
            obtain ⟨i, hi, rfl, hall2, hbr⟩ := hrel
            by_cases hlt2 : i < 0
            · exact absurd hlt2 (by omega)
            · obtain rfl : i = 0 := by omega
              have e := nxt_no F (fun q h1 h2 => hall q h1 h2) hall2
              go_wp2
              go_ret2
              exact ⟨by rw [e]; rfl, hbr⟩
  · obtain ⟨m, rfl⟩ := Int.eq_ofNat_of_zero_le (show 0 ≤ last by omega)
    have hm : m < hs.length := by omega
    have F := fr_in hm
    have o1 : ¬ ((m : Int) < 0) := by omega
    have o2 : ¬ ((m : Int) ≥ (hs.length : Int)) := by omega
    have o3 : ¬ ((hs.length : Int) ≤ (m : Int)) := by omega
    clear ho
    go_enter Try.func10, Try.ntmps10
    go_wp2
    go_loopw [7] (fun i wr => ∃ j : Nat, (m + 1) ≤ j ∧ j ≤ hs.length ∧ i = .int .i64 j ∧ (∀ q, (m + 1) ≤ q → q < j → hs[q]?.getD false = true) ∧ Below w.heap.size w wr) (fun i _ => hs.length - (intOf i).toNat)
    case atStart => exact ⟨(m + 1), by omega, F.le, by first | rfl | go_num, fun q _ _ => by omega, Below.refl _ _⟩
    case round =>
      obtain ⟨j, hj0, hj, rfl, hall, hbr⟩ := hrel
      by_cases hlt : j < hs.length
      · obtain ⟨b, rfl, hal, hac⟩ := (hb.below hbr rfl).flag j hlt
        obtain ⟨f, hf⟩ : ∃ f, hs[j]?.getD false = f := ⟨_, rfl⟩
        rw [hf] at hac
        cases f
        · have e := nxt_up F hj0 hlt hf hall
          go_wp2
          go_ret2
          exact ⟨by rw [e]; rfl, hbr⟩
        · go_wp2
          go_roundw
          case rel => exact ⟨j + 1, by omega, by omega, by go_num, fun q h1 h2 => by
            by_cases hq : q < j
            · exact hall q h1 hq
            · obtain rfl : q = j := by omega
              exact hf, hbr⟩
          case measure => simp [intOf]; omega
      · obtain rfl : j = hs.length := by omega
        go_wp2
        go_loopw [8] (fun i wr => ∃ i' : Nat, i' ≤ (m + 1) ∧ i = .int .i64 i' ∧ (∀ q, q < i' → hs[q]?.getD false = true) ∧ Below w.heap.size w wr) (fun i _ => (m + 1) - (intOf i).toNat)
        case atStart => exact ⟨0, by omega, rfl, fun q _ => by omega, hbr⟩
        case round =>
          obtain ⟨i, hi, rfl, hall2, hbr⟩ := hrel
          by_cases hlt2 : i < (m + 1)
          · have hl2 : i < hs.length := by have := F.le; omega
            obtain ⟨b, rfl, hal, hac⟩ := (hb.below hbr rfl).flag i hl2
            obtain ⟨f, hf⟩ : ∃ f, hs[i]?.getD false = f := ⟨_, rfl⟩
            rw [hf] at hac
            cases f
            · have e := nxt_lo F hlt2 hf (fun q h1 h2 => hall q h1 h2) hall2
              go_wp2
              go_ret2
              exact ⟨by rw [e]; rfl, hbr⟩
            · go_wp2
              go_roundw
              case rel => exact ⟨i + 1, by omega, by go_num, fun q h1 => by
                by_cases hq : q < i
                · exact hall2 q hq
                · obtain rfl : q = i := by omega
                  exact hf, hbr⟩
              case measure => simp [intOf]; omega
          · obtain rfl : i = (m + 1) := by omega
            have e := nxt_no F (fun q h1 h2 => hall q h1 h2) hall2
            go_wp2
            go_ret2
            exact ⟨by rw [e]; rfl, hbr⟩
/-- The numbers of a slice of int. -/
def Is (W : World) (A : Option Addr) (xs : List Int) : Prop := ∀ k, k < xs.length → ∃ a, A = some a ∧ a.block < W.heap.size ∧ W.cell? (a.add k) = some (.int .i64 (xs[k]?.getD 0))
theorem Is.below {n₀ : Nat} {w W : World} {A : Option Addr} {xs : List Int} (h : Is w A xs) (hb : Below n₀ w W) (hn : w.heap.size ≤ n₀) : Is W A xs := by
  intro k hk
  obtain ⟨a, rfl, hl, hc⟩ := h k hk
  refine ⟨a, rfl, Nat.lt_of_lt_of_le hl hb.size, ?_⟩
  rw [← hc]
  exact hb.cell (p := a.add k) (by unfold Addr.add; split <;> (refine Nat.lt_of_lt_of_le ?_ hn; exact hl))
theorem is_open {n₀ : Nat} {W : World} {v : Value} {xs : List Int} (h : W.ownsRow n₀ 3 1 v xs.length (xs.map (.int .i64 ·))) : ∃ A cap, v = .slice A xs.length cap ∧ Is W A xs := by
  have h' := h
  obtain ⟨_, h2⟩ := h
  rcases h2 with ⟨rfl, h0⟩ | ⟨g, cap, cur, rfl, hg, hh, hrest⟩
  · exact ⟨none, 0, by rw [h0], fun k hk => by omega⟩
  · refine ⟨some ⟨g, 0, none⟩, cap, rfl, fun k hk => ⟨_, rfl, (Array.getElem?_eq_some_iff.1 hh).1, ?_⟩⟩
    exact h'.cells (g := g) rfl k _ (by rw [List.getElem?_map, List.getElem?_eq_getElem hk]; rfl)
theorem same_list {xs ys : List Int} (hl : xs.length = ys.length) (hall : ∀ q, q < xs.length → xs[q]?.getD 0 = ys[q]?.getD 0) : xs = ys := by
  apply List.ext_getElem hl
  intro q h1 h2
  have := hall q h1
  rw [List.getElem?_eq_getElem h1, List.getElem?_eq_getElem h2] at this
  exact this
set_option maxRecDepth 100000 in
set_option maxHeartbeats 2000000 in
theorem same_any (A B : Option Addr) (c d : Nat) (xs ys : List Int) (w : World) (hx : xs.length ≤ 1000) (hy : ys.length ≤ 1000) (ha : Is w A xs) (hb : Is w B ys) :
    Calls Try.prog 13 #[.slice A xs.length c, .slice B ys.length d] w fun e w' => e = .returned (.bool (decide (xs = ys))) ∧ Below w.heap.size w w' := by
  go_enter Try.func13, Try.ntmps13
  by_cases hl : xs.length = ys.length
  · have h1 : ((xs.length : Int) != (ys.length : Int)) = false := by rw [hl]; simp
    go_wp2
    go_loopw [5] (fun i wr => ∃ k : Nat, k ≤ xs.length ∧ i = .int .i64 k ∧ (∀ q, q < k → xs[q]?.getD 0 = ys[q]?.getD 0) ∧ Below w.heap.size w wr) (fun i _ => xs.length - (intOf i).toNat)
    case atStart => exact ⟨0, by omega, rfl, fun q hq => by omega, Below.refl _ _⟩
    case round =>
      obtain ⟨k, hk, rfl, hall, hbr⟩ := hrel
      by_cases hlt : k < xs.length
      · obtain ⟨a, rfl, hal, hac⟩ := (ha.below hbr (Nat.le_refl _)) k hlt
        obtain ⟨b, rfl, hbl, hbc⟩ := (hb.below hbr (Nat.le_refl _)) k (by omega)
        have hlt2 : k < ys.length := by omega
        obtain ⟨x, hxe⟩ : ∃ x, xs[k]?.getD 0 = x := ⟨_, rfl⟩
        obtain ⟨y, hye⟩ : ∃ y, ys[k]?.getD 0 = y := ⟨_, rfl⟩
        rw [hxe] at hac
        rw [hye] at hbc
        clear ha hb
        have BR := Lib.hid hbr
        have HA := Lib.hid hall
        clear hbr hall
        by_cases he : x = y
        · have h2 : (x != y) = false := by rw [he]; simp
          go_wp2
          go_quiet (fail)
          go_wp2
          go_roundw
          case rel => exact ⟨k + 1, by omega, by go_num, fun q hq => by
            by_cases hqk : q < k
            · exact HA.out q hqk
            · obtain rfl : q = k := by omega
              rw [hxe, hye, he], (by repeat (first | exact BR.out | refine bdrew ?_ _))⟩
          case measure => simp [intOf]; omega
        · have h2 : (x != y) = true := by simpa using he
          go_wp2
          go_quiet (fail)
          go_wp2
          go_ret
          refine ⟨?_, by repeat (first | exact BR.out | refine bdrew ?_ _)⟩
          rw [decide_eq_false (fun h => he (by rw [← hxe, ← hye, h]))]
          rfl
      · obtain rfl : k = xs.length := by omega
        go_wp2
        go_ret
        refine ⟨?_, hbr⟩
        rw [decide_eq_true (same_list hl hall)]
        rfl
  · have h1 : ((xs.length : Int) != (ys.length : Int)) = true := by simp; omega
    go_wp2
    go_ret
    refine ⟨?_, by repeat (first | exact Below.refl _ _ | refine bdrew ?_ _)⟩
    rw [decide_eq_false (fun h => hl (by rw [h]))]
    rfl
end Go.Proofs.Ytppaegfmmegabaa.Sched
