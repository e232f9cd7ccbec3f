/- sched.ring and sched.Next, walked: the first index behind last whose guest is not halted, in cyclic order. -/
import Derived.RangeFuncNested
import Derived.RangeFuncBound
import Derived.RangeFuncCalls
import Derived.RangeFuncLeaves
import Derived.Shelf.Abstract
import Derived.WalkKit
import Derived.OwnWalkIn
import Derived.TacticsInMore
import Derived.LoopNIn
import Derived.LoopIn
import Derived.Test.YtppaegfmmegabaaProg
import Derived.Lib.Hide
namespace Go.Proofs.Ytppaegfmmegabaa.Sched
open Go Go.RowKit Go.Shelf
set_option linter.unusedVariables false
set_option linter.unusedSimpArgs false
attribute [local go_sem] Oper.semAt_some
/-- sched.ring: two boxes and the closure over them. -/
theorem ring_any (n last : Int) (w : World) :
    Calls Try.prog 16 #[.int .i64 n, .int .i64 last] w fun e w' =>
      e = .returned (.func (.func 17) #[] #[.pointer (some ⟨w.heap.size + 1, 0, none⟩), .pointer (some ⟨w.heap.size, 0, none⟩)]) ∧ w' = (w.alloc (.cells #[.int .i64 n] 3)).alloc (.cells #[.int .i64 last] 3) := by
  go_enter Try.func16, Try.ntmps16
  go_wp2
  go_ret
  exact ⟨rfl, rfl⟩
set_option maxRecDepth 100000 in
set_option maxHeartbeats 2000000 in
/-- The closure of sched.ring, once its start is set: round k gives (s + 1 + k) % n. -/
theorem ring1_loop (m l bn bl n : Nat) (last : Int) (s : Nat) (hn : n ≤ 1000) (hr : last < 0 ∨ last ≥ (n : Int) → s = n - 1) (hr' : 0 ≤ last → last < n → (s : Int) = last)
    (J : Nat → World → Prop) (Jx : World → Prop)
    (hJ : ∀ k W, J k W → Boxed W bn 3 (.int .i64 (n : Int)) ∧ Boxed W bl 3 (.int .i64 (if last < 0 ∨ last ≥ (n : Int) then (n : Int) - 1 else last)))
    (hY : ∀ k W, k < n → J k W → YieldAt Fence.wide m Try.prog l #[.int .i64 (((s + 1 + k) % n : Nat) : Int)] W fun e W' => (e = .returned (.bool true) ∧ J (k + 1) W') ∨ (e = .returned (.bool false) ∧ Jx W'))
    (W : World) (hbn : Boxed W bn 3 (.int .i64 (n : Int))) (hbl : Boxed W bl 3 (.int .i64 last))
    (h0 : J 0 (if last < 0 ∨ last ≥ (n : Int) then W.setCell ⟨bl, 0, none⟩ (.int .i64 ((n : Int) - 1)) else W)) :
    CallsIn Fence.wide (m + 1) Try.prog 17 #[.func (.yield l) #[] #[], .pointer (some ⟨bl, 0, none⟩), .pointer (some ⟨bn, 0, none⟩)] W fun e W' => (∃ v, e = .returned v) ∧ (J n W' ∨ Jx W') := by
  refine callsIn_of_wp Try.func17 rfl trivial ?_ rfl
  simp only [Try.ntmps17, List.size_toArray, List.length_cons, List.length_nil, Nat.reduceAdd, Nat.reduceSub, Array.replicate_succ, Array.replicate_zero, List.push_toArray, List.append_toArray, List.nil_append, List.cons_append]
  have c1 := hbn.cell
  have c2 := hbl.cell
  have f2 := hbl.frozen
  by_cases ho : last < 0 ∨ last ≥ (n : Int)
  · rw [if_pos ho] at h0
    obtain ⟨hbn0, hbl0⟩ := hJ 0 _ h0
    by_cases o1 : last < 0
    · gi_wp2
      gi_loopw [4] (fun i wr => ∃ k : Nat, k ≤ n ∧ i = .int .i64 ((k : Int) + 1) ∧ J k wr) (fun i _ => n + 1 - (intOf i).toNat)
      case atStart => exact ⟨0, by omega, rfl, h0⟩
      case round =>
        obtain ⟨k, hk, rfl, hj⟩ := hrel
        obtain ⟨hbn1, hbl1⟩ := hJ k _ hj
        rw [if_pos ho] at hbl1
        have d1 := hbn1.cell
        have d2 := hbl1.cell
        by_cases hkn : k < n
        · obtain ⟨fn, tmps, assign, body, hy, hR⟩ := hY k wr hkn hj
          rw [show (((s + 1 + k) % n : Nat) : Int) = ((n : Int) - 1 + ((k : Int) + 1)) % n from by rw [hr ho, Int.natCast_emod]; congr 1; omega] at hy
          gi_wp2
          refine hR.mono ?_
          rintro e W3 (⟨rfl, hj3⟩ | ⟨rfl, hj3⟩)
          · gi_wp2
            go_roundw
            case rel => exact ⟨k + 1, by omega, by go_num, hj3⟩
            case measure => simp [intOf]; omega
          · gi_wp2
            refine bodyPost_ret (results_none rfl _ _ _) rfl ?_
            exact ⟨⟨_, rfl⟩, .inr hj3⟩
        · obtain rfl : k = n := by omega
          gi_wp2
          go_end0
          exact ⟨⟨_, rfl⟩, .inl hj⟩
    · have o2 : last ≥ (n : Int) := ho.resolve_left o1
      gi_wp2
      gi_loopw [4] (fun i wr => ∃ k : Nat, k ≤ n ∧ i = .int .i64 ((k : Int) + 1) ∧ J k wr) (fun i _ => n + 1 - (intOf i).toNat)
      case atStart => exact ⟨0, by omega, rfl, h0⟩
      case round =>
        obtain ⟨k, hk, rfl, hj⟩ := hrel
        obtain ⟨hbn1, hbl1⟩ := hJ k _ hj
        rw [if_pos ho] at hbl1
        have d1 := hbn1.cell
        have d2 := hbl1.cell
        by_cases hkn : k < n
        · obtain ⟨fn, tmps, assign, body, hy, hR⟩ := hY k wr hkn hj
          rw [show (((s + 1 + k) % n : Nat) : Int) = ((n : Int) - 1 + ((k : Int) + 1)) % n from by rw [hr ho, Int.natCast_emod]; congr 1; omega] at hy
          gi_wp2
          refine hR.mono ?_
          rintro e W3 (⟨rfl, hj3⟩ | ⟨rfl, hj3⟩)
          · gi_wp2
            go_roundw
            case rel => exact ⟨k + 1, by omega, by go_num, hj3⟩
            case measure => simp [intOf]; omega
          · gi_wp2
            refine bodyPost_ret (results_none rfl _ _ _) rfl ?_
            exact ⟨⟨_, rfl⟩, .inr hj3⟩
        · obtain rfl : k = n := by omega
          gi_wp2
          go_end0
          exact ⟨⟨_, rfl⟩, .inl hj⟩
  · rw [if_neg ho] at h0
    have o1 : ¬ last < 0 := fun h => ho (.inl h)
    have o2 : ¬ last ≥ (n : Int) := fun h => ho (.inr h)
    have o3 : ¬ (n : Int) ≤ last := o2
    gi_wp2
    gi_loopw [4] (fun i wr => ∃ k : Nat, k ≤ n ∧ i = .int .i64 ((k : Int) + 1) ∧ J k wr) (fun i _ => n + 1 - (intOf i).toNat)
    case atStart => exact ⟨0, by omega, rfl, h0⟩
    case round =>
      obtain ⟨k, hk, rfl, hj⟩ := hrel
      obtain ⟨hbn1, hbl1⟩ := hJ k _ hj
      rw [if_neg ho] at hbl1
      have d1 := hbn1.cell
      have d2 := hbl1.cell
      by_cases hkn : k < n
      · obtain ⟨fn, tmps, assign, body, hy, hR⟩ := hY k wr hkn hj
        rw [show (((s + 1 + k) % n : Nat) : Int) = (last + ((k : Int) + 1)) % n from by rw [← hr' (by omega) (by omega), Int.natCast_emod]; congr 1; omega] at hy
        gi_wp2
        refine hR.mono ?_
        rintro e W3 (⟨rfl, hj3⟩ | ⟨rfl, hj3⟩)
        · gi_wp2
          go_roundw
          case rel => exact ⟨k + 1, by omega, by go_num, hj3⟩
          case measure => simp [intOf]; omega
        · gi_wp2
          refine bodyPost_ret (results_none rfl _ _ _) rfl ?_
          exact ⟨⟨_, rfl⟩, .inr hj3⟩
      · obtain rfl : k = n := by omega
        gi_wp2
        go_end0
        exact ⟨⟨_, rfl⟩, .inl hj⟩
/-- How a round's body may be left here: on to the next round, or by a return. -/
def leftBy (I Ix : World → Prop) (W : World) : Exit → Act → World → Prop
  | .normal, _, W' => KeepsOthers W W' ∧ I W'
  | .ret, _, W' => KeepsOthers W W' ∧ Ix W'
  | _, _, _ => False
/-- A range over the closure of sched.ring, for a body that goes on or returns. -/
theorem range_ring {g : Operand} {ps : Array Tmp} {assign body : Code} {Q : Exit → Act → World → Prop} {a : Act} {w : World} (bn bl n : Nat) (last : Int) (s : Nat) (hn : n ≤ 1000)
    (hr : last < 0 ∨ last ≥ (n : Int) → s = n - 1) (hr' : 0 ≤ last → last < n → (s : Int) = last) (hps : ps.size = 1)
    (hg : a.eval g = .func (.func 17) #[] #[.pointer (some ⟨bl, 0, none⟩), .pointer (some ⟨bn, 0, none⟩)])
    (hbn : Boxed w bn 3 (.int .i64 (n : Int))) (hbl : Boxed w bl 3 (.int .i64 last))
    (I : Nat → World → Prop) (Ix : World → Prop)
    (hI : ∀ k W, I k W → Boxed W bn 3 (.int .i64 (n : Int)) ∧ Boxed W bl 3 (.int .i64 (if last < 0 ∨ last ≥ (n : Int) then (n : Int) - 1 else last)))
    (hput : ∀ k W r r', I k W → W.heap[w.heap.size + 1]? = some (.loop r) → I k (W.putObj (w.heap.size + 1) (.loop r')))
    (hputx : ∀ W r r', Ix W → W.heap[w.heap.size + 1]? = some (.loop r) → Ix (W.putObj (w.heap.size + 1) (.loop r')))
    (h0 : ∀ r, I 0 (if last < 0 ∨ last ≥ (n : Int) then ((w.alloc (.deferred (some []))).alloc (.loop r)).setCell ⟨bl, 0, none⟩ (.int .i64 ((n : Int) - 1)) else (w.alloc (.deferred (some []))).alloc (.loop r)))
    (a₁ : Nat → Act)
    (hassign : ∀ (k : Nat) (W : World) (K : Act → World → Prop), K (a₁ k) W →
      assign.wpIn (Fence.wide.inRound (w.heap.size + 1)) 3 Try.prog (Exit.then K (fun _ _ _ => False)) { tmps := (ps.zip #[.int .i64 (((s + 1 + k) % n : Nat) : Int)]).foldl (fun t (p, v) => t.setIfInBounds p v) a.tmps, defers := [] } W)
    (hbody : ∀ (k : Nat) (W : World), k < n → I k W → body.wpIn (Fence.wide.inRound (w.heap.size + 1)) 3 Try.prog (leftBy (I (k + 1)) Ix W) (a₁ k) W)
    (hdone : ∀ W, I n W → W.heap[w.heap.size]? = some (.deferred (some [])) → Q .normal { a with defers := { target := .collected w.heap.size, args := #[] } :: a.defers } W)
    (hstop : ∀ W, Ix W → W.heap[w.heap.size]? = some (.deferred (some [])) → Code.ret.wpIn Fence.wide 5 Try.prog Q { a with defers := { target := .collected w.heap.size, args := #[] } :: a.defers } W) :
    (Code.rangeFunc g ps assign body).wpIn Fence.wide 5 Try.prog Q a w := by
  refine wpIn_rangeFunc fun fn hfn => ?_
  obtain ⟨r, hrr⟩ : ∃ r : Loop, r = { state := .ready, pending := none, fn, tmps := a.tmps, params := ps, assign, body, defers := w.heap.size } := ⟨_, rfl⟩
  have he := run_enterLoop_outer (w := w) (P := Try.prog) fn a.tmps ps assign body
  rw [← hrr] at he
  have z1 : (w.alloc (.deferred (some []))).heap.size = w.heap.size + 1 := World.size_alloc _ _
  have hl1 : ((w.alloc (.deferred (some []))).alloc (.loop r)).heap[w.heap.size + 1]? = some (.loop r) := by rw [← z1]; exact World.alloc_heap_new _ _
  have hd1 : ((w.alloc (.deferred (some []))).alloc (.loop r)).heap[w.heap.size]? = some (.deferred (some [])) := (Below.heap_alloc _ _ _ (by simp)).trans (World.alloc_heap_new w _)
  obtain ⟨W1, hW1⟩ : ∃ W1, (w.alloc (.deferred (some []))).alloc (.loop r) = W1 := ⟨_, rfl⟩
  have h0' := h0 r
  rw [hW1] at he hl1 hd1 h0'
  have hbn1 : Boxed W1 bn 3 (.int .i64 (n : Int)) := by rw [← hW1]; exact (hbn.alloc _).alloc _
  have hbl1 : Boxed W1 bl 3 (.int .i64 last) := by rw [← hW1]; exact (hbl.alloc _).alloc _
  refine ⟨w.heap.size + 1, [{ target := .collected w.heap.size, args := #[] }], W1, { target := .fn (.func 17) #[.pointer (some ⟨bl, 0, none⟩), .pointer (some ⟨bn, 0, none⟩)], args := #[.func (.yield (w.heap.size + 1)) #[] #[]] }, W1, 17,
    #[.func (.yield (w.heap.size + 1)) #[] #[], .pointer (some ⟨bl, 0, none⟩), .pointer (some ⟨bn, 0, none⟩)], W1, he, ?_, fun _ _ => trivial, ?_, (fun h => by cases h), ?_⟩
  · simp only [resolve, hg]
    simp [go_sem]
  · have := enters_of Try.func17 (by kernel_rfl) rfl
    simp [invoke, go_sem, this]
  obtain ⟨rb, hrb⟩ : ∃ rb : Loop, rb = { r with state := .busy } := ⟨_, rfl⟩
  obtain ⟨rd, hrd⟩ : ∃ rd : Loop, rd = { r with state := .done, pending := some .ret } := ⟨_, rfl⟩
  have eB : ∀ W3 : World, W3.heap[w.heap.size + 1]? = some (.loop r) → (Instr.beginRound (w.heap.size + 1)).run Try.prog W3 = .ok () (W3.putObj (w.heap.size + 1) (.loop rb)) := fun W3 h => by
    rw [hrb]; exact run_beginRound h (by rw [hrr])
  have eN : ∀ W3 : World, W3.heap[w.heap.size + 1]? = some (.loop rb) → (Instr.endRound (w.heap.size + 1) none).run Try.prog W3 = .ok (.bool true) (W3.putObj (w.heap.size + 1) (.loop r)) := fun W3 h => by
    have := run_endRound (P := Try.prog) none h
    rw [hrb, hrr] at this
    rw [hrr]
    exact this
  have eR : ∀ W3 : World, W3.heap[w.heap.size + 1]? = some (.loop rb) → (Instr.endRound (w.heap.size + 1) (some .ret)).run Try.prog W3 = .ok (.bool false) (W3.putObj (w.heap.size + 1) (.loop rd)) := fun W3 h => by
    have := run_endRound (P := Try.prog) (some .ret) h
    rw [hrb] at this
    rw [hrd]
    exact this
  have eL : ∀ W3 : World, W3.heap[w.heap.size + 1]? = some (.loop r) → (Instr.endLoop (w.heap.size + 1)).run Try.prog W3 = .ok none (W3.putObj (w.heap.size + 1) (.loop { r with state := .exhausted, pending := none })) := fun W3 h => by
    have := run_endLoop (P := Try.prog) h (by rw [hrr]; simp)
    rw [show r.pending = none by rw [hrr]] at this
    exact this
  have eD : ∀ W3 : World, W3.heap[w.heap.size + 1]? = some (.loop rd) → (Instr.endLoop (w.heap.size + 1)).run Try.prog W3 = .ok (some .ret) (W3.putObj (w.heap.size + 1) (.loop { rd with state := .exhausted, pending := some .ret })) := fun W3 h => by
    have := run_endLoop (P := Try.prog) h (by rw [hrd]; simp)
    rw [show rd.pending = some .ret by rw [hrd]] at this
    exact this
  refine (ring1_loop 3 (w.heap.size + 1) bn bl n last s hn hr hr'
    (fun k W => I k W ∧ W.heap[w.heap.size + 1]? = some (.loop r) ∧ W.heap[w.heap.size]? = some (.deferred (some [])))
    (fun W => Ix W ∧ W.heap[w.heap.size + 1]? = some (.loop rd) ∧ W.heap[w.heap.size]? = some (.deferred (some [])))
    (fun k W h => hI k W h.1) ?_ W1 hbn1 hbl1 ?_).mono ?_
  · rintro k W hk ⟨hi, hl, hd⟩
    have hlt := (Array.getElem?_eq_some_iff.1 hl).1
    have hi2 := hput k W r rb hi hl
    have hl2 : (W.putObj (w.heap.size + 1) (.loop rb)).heap[w.heap.size + 1]? = some (.loop rb) := World.putObj_heap_same hlt
    have hd2 : (W.putObj (w.heap.size + 1) (.loop rb)).heap[w.heap.size]? = some (.deferred (some [])) := (World.putObj_heap_other (by omega)).trans hd
    have hq := hassign k W (fun a₁ w₁ => ∃ w₂, (Instr.beginRound (w.heap.size + 1)).run Try.prog w₁ = .ok () w₂ ∧ body.wpIn (Fence.wide.inRound (w.heap.size + 1)) 3 Try.prog (roundPost Try.prog (w.heap.size + 1) (fun e W' => (e = .returned (.bool true) ∧ I (k + 1) W' ∧ W'.heap[w.heap.size + 1]? = some (.loop r) ∧ W'.heap[w.heap.size]? = some (.deferred (some []))) ∨ (e = .returned (.bool false) ∧ Ix W' ∧ W'.heap[w.heap.size + 1]? = some (.loop rd) ∧ W'.heap[w.heap.size]? = some (.deferred (some []))))) a₁ w₂) ⟨_, eB W hl, by
      refine wpIn_mono (hbody k _ hk hi2) fun e a3 W3 hp => ?_
      cases e with
      | normal =>
        have hl3 := hp.1.same _ _ hl2 rfl
        exact ⟨_, _, eN _ hl3, .inl ⟨rfl, hput _ _ _ _ hp.2 hl3, World.putObj_heap_same (Array.getElem?_eq_some_iff.1 hl3).1, (World.putObj_heap_other (by omega)).trans (hp.1.same _ _ hd2 rfl)⟩⟩
      | ret =>
        have hl3 := hp.1.same _ _ hl2 rfl
        exact ⟨_, _, eR _ hl3, .inr ⟨rfl, hputx _ _ _ hp.2 hl3, World.putObj_heap_same (Array.getElem?_eq_some_iff.1 hl3).1, (World.putObj_heap_other (by omega)).trans (hp.1.same _ _ hd2 rfl)⟩⟩
      | exit id => exact hp.elim
      | goto t => exact hp.elim
      | panic ch => exact hp.elim
      | outgrown => exact hp.elim⟩
    have hy := run_yield (P := Try.prog) (args := #[.int .i64 (((s + 1 + k) % n : Nat) : Int)]) hl (by rw [hrr]; exact hps.symm)
    rw [show r.fn = fn by rw [hrr], show r.params = ps by rw [hrr], show r.tmps = a.tmps by rw [hrr], show r.assign = assign by rw [hrr], show r.body = body by rw [hrr]] at hy
    exact ⟨_, _, _, _, hy, roundIn_of_wpIn hfn hq⟩
  · refine ⟨h0', ?_⟩
    split
    · exact ⟨(Below.heap_setCell _ _ _ _ (fun e => by have := hbl.lt; dsimp only at e; omega)).trans hl1, (Below.heap_setCell _ _ _ _ (fun e => by have := hbl.lt; dsimp only at e; omega)).trans hd1⟩
    · exact ⟨hl1, hd1⟩
  · rintro e W2 ⟨⟨v, rfl⟩, (⟨hi, hl, hd⟩ | ⟨hi, hl, hd⟩)⟩
    · exact ⟨none, _, eL _ hl, hdone _ (hput _ _ _ _ hi hl) ((World.putObj_heap_other (by omega)).trans hd)⟩
    · exact ⟨some .ret, _, eD _ hl, hstop _ (hputx _ _ _ hi hl) ((World.putObj_heap_other (by omega)).trans hd)⟩
/-- Where the ring starts. -/
def st (n : Nat) (last : Int) : Nat := if last < 0 ∨ last ≥ (n : Int) then n - 1 else last.toNat
/-- How many halted guests are passed over before the next runnable one. -/
def nk (hs : List Bool) (s : Nat) : Option Nat := (List.range hs.length).find? (fun k => !((hs[(s + 1 + k) % hs.length]?).getD false))
/-- What sched.Next answers. -/
def nxt (hs : List Bool) (last : Int) : Nat × Bool :=
  match nk hs (st hs.length last) with
  | some k => ((st hs.length last + 1 + k) % hs.length, true)
  | none => (0, false)
theorem nxt_some {hs : List Bool} {last : Int} {k : Nat} (hk : k < hs.length) (h1 : (hs[(st hs.length last + 1 + k) % hs.length]?).getD false = false)
    (h2 : ∀ j, j < k → (hs[(st hs.length last + 1 + j) % hs.length]?).getD false = true) : nxt hs last = ((st hs.length last + 1 + k) % hs.length, true) := by
  have : nk hs (st hs.length last) = some k := by
    unfold nk
    rw [List.find?_range_eq_some]
    exact ⟨by rw [h1]; rfl, List.mem_range.2 hk, fun j hj => by rw [h2 j hj]; rfl⟩
  unfold nxt
  rw [this]
theorem nxt_none {hs : List Bool} {last : Int} (h2 : ∀ j, j < hs.length → (hs[(st hs.length last + 1 + j) % hs.length]?).getD false = true) : nxt hs last = (0, false) := by
  have : nk hs (st hs.length last) = none := by
    unfold nk
    rw [List.find?_range_eq_none]
    exact fun j hj => by rw [h2 j hj]; rfl
  unfold nxt
  rw [this]
theorem st_out {n : Nat} {last : Int} (h : last < 0 ∨ last ≥ (n : Int)) : st n last = n - 1 := if_pos h
theorem st_in {n : Nat} {last : Int} (h1 : 0 ≤ last) (h2 : last < n) : ((st n last : Nat) : Int) = last := by
  unfold st
  rw [if_neg (by omega)]
  omega
theorem boxPut {W : World} {B l : Nat} {t : TypeId} {v : Value} {r : Loop} (h : Boxed W B t v) (hl : W.heap[l]? = some (.loop r)) (o : Obj) : Boxed (W.putObj l o) B t v :=
  (World.putObj_heap_other (fun e => by rw [Boxed, e, hl] at h; cases h)).trans h
theorem belowPut {b l : Nat} {w W : World} (h : Below b w W) (hb : b ≤ W.heap.size) (hl : b ≤ l) (o : Obj) : Below b w (W.putObj l o) :=
  h.grown (grownBy_putObj' W l o) hb (fun k e => by cases e; exact hl)
set_option maxRecDepth 100000 in
set_option maxHeartbeats 2000000 in
theorem next_any (hs : List Bool) (p : Option Addr) (cap : Nat) (last : Int) (w : World) (hlen : hs.length ≤ 1000)
    (hp : ∀ k, k < hs.length → ∃ b, p = some ⟨b, 0, none⟩ ∧ b < w.heap.size ∧ w.cell? ⟨b, k * 33 + 30, none⟩ = some (.bool (hs[k]?.getD false))) :
    Calls Try.prog 9 #[.slice p hs.length cap, .int .i64 last] w fun e w' => e = .returned (.tuple #[.int .i64 ((nxt hs last).1 : Int), .bool (nxt hs last).2]) ∧ Below w.heap.size w w' := by
  refine (callsIn_wide (n := 5)).1 ?_
  refine callsIn_of_wp_marks Try.func9 rfl trivial ?_ rfl
  simp only [Try.ntmps9, List.size_toArray, List.length_cons, List.length_nil, Nat.reduceAdd, Nat.reduceSub, Array.replicate_succ, Array.replicate_zero, List.push_toArray, List.append_toArray, List.nil_append, List.cons_append]
  gi_wp2_with (refine ⟨trivial, ?_⟩; gi_at_call 16; refine (callsIn_wide.2 (ring_any _ _ _)).mono ?_; rintro e w' ⟨rfl, rfl⟩)
  obtain ⟨s, hs0⟩ : ∃ s, w.heap.size = s := ⟨_, rfl⟩
  have zs : ∀ v : Value, (w.alloc (.cells #[v] 24)).heap.size = s + 1 := fun v => by rw [World.size_alloc, hs0]
  obtain ⟨W0, hW0⟩ : ∃ W0, ((((w.alloc (.cells #[.slice p hs.length cap] 24)).alloc (.cells #[.int .i64 0] 3)).alloc (.cells #[.bool false] 4)).alloc (.cells #[.int .i64 (hs.length : Int)] 3)).alloc (.cells #[.int .i64 last] 3) = W0 := ⟨_, rfl⟩
  have bL : Boxed W0 s 24 (.slice p hs.length cap) := by rw [← hW0, ← hs0]; exact ((((Boxed.new w 24 _).alloc _).alloc _).alloc _).alloc _
  have bA : Boxed W0 (s + 1) 3 (.int .i64 0) := by rw [← hW0, ← hs0, ← World.size_alloc w (.cells #[.slice p hs.length cap] 24)]; exact (((Boxed.new _ 3 _).alloc _).alloc _).alloc _
  have bO : Boxed W0 (s + 2) 4 (.bool false) := by
    have := ((Boxed.new ((w.alloc (.cells #[.slice p hs.length cap] 24)).alloc (.cells #[.int .i64 0] 3)) 4 (.bool false)).alloc (.cells #[.int .i64 (hs.length : Int)] 3)).alloc (.cells #[.int .i64 last] 3)
    rw [hW0] at this; simpa [hs0] using this
  have bN : Boxed W0 (s + 3) 3 (.int .i64 (hs.length : Int)) := by
    have := (Boxed.new (((w.alloc (.cells #[.slice p hs.length cap] 24)).alloc (.cells #[.int .i64 0] 3)).alloc (.cells #[.bool false] 4)) 3 (.int .i64 (hs.length : Int))).alloc (.cells #[.int .i64 last] 3)
    rw [hW0] at this; simpa [hs0] using this
  have bT : Boxed W0 (s + 4) 3 (.int .i64 last) := by
    have := Boxed.new ((((w.alloc (.cells #[.slice p hs.length cap] 24)).alloc (.cells #[.int .i64 0] 3)).alloc (.cells #[.bool false] 4)).alloc (.cells #[.int .i64 (hs.length : Int)] 3)) 3 (.int .i64 last)
    rw [hW0] at this; simpa [hs0] using this
  have z0 : W0.heap.size = s + 5 := by rw [← hW0]; simp [hs0]
  have B0 : Below s w W0 := by
    rw [← hW0, ← hs0]
    exact (((((Below.refl _ w).alloc (Nat.le_refl _) _).alloc (by simp) _).alloc (by simp; omega) _).alloc (by simp; omega) _).alloc (by simp; omega) _
  simp only [hs0, World.size_alloc, hW0, Nat.add_assoc, Nat.reduceAdd] at hp ⊢
  clear hW0 zs
  have hcl : ∀ W, Below s w W → s ≤ W.heap.size := fun W h => by have := h.size; omega
  obtain ⟨T, hT⟩ : ∃ T : Int, T = if last < 0 ∨ last ≥ (hs.length : Int) then (hs.length : Int) - 1 else last := ⟨_, rfl⟩
  refine range_ring (s + 3) (s + 4) hs.length last (st hs.length last) hlen st_out st_in rfl rfl bN bT
    (fun k W => Below s w W ∧ Boxed W s 24 (.slice p hs.length cap) ∧ Boxed W (s + 1) 3 (.int .i64 0) ∧ Boxed W (s + 2) 4 (.bool false) ∧ Boxed W (s + 3) 3 (.int .i64 (hs.length : Int)) ∧
      Boxed W (s + 4) 3 (.int .i64 T) ∧ ∀ j, j < k → (hs[(st hs.length last + 1 + j) % hs.length]?).getD false = true)
    (fun W => Below s w W ∧ Boxed W (s + 1) 3 (.int .i64 ((nxt hs last).1 : Int)) ∧ Boxed W (s + 2) 4 (.bool true) ∧ (nxt hs last).2 = true)
    (fun k W h => ⟨h.2.2.2.2.1, hT ▸ h.2.2.2.2.2.1⟩)
    (fun k W r r' h hl => ⟨belowPut h.1 (hcl _ h.1) (by omega) _, boxPut h.2.1 hl _, boxPut h.2.2.1 hl _, boxPut h.2.2.2.1 hl _, boxPut h.2.2.2.2.1 hl _, boxPut h.2.2.2.2.2.1 hl _, h.2.2.2.2.2.2⟩)
    (fun W r r' h hl => ⟨belowPut h.1 (hcl _ h.1) (by omega) _, boxPut h.2.1 hl _, boxPut h.2.2.1 hl _, h.2.2.2⟩)
    (fun r => ?start)
    (fun k => { tmps := #[.slice p hs.length cap, .int .i64 last, .pointer (some ⟨s, 0, none⟩), undef, .pointer (some ⟨s + 1, 0, none⟩), .pointer (some ⟨s + 2, 0, none⟩), .int .i64 (((st hs.length last + 1 + k) % hs.length : Nat) : Int),
      .slice p hs.length cap, .int .i64 (hs.length : Int), .int .i64 last, .func (.func 17) #[] #[.pointer (some ⟨s + 4, 0, none⟩), .pointer (some ⟨s + 3, 0, none⟩)], .int .i64 (((st hs.length last + 1 + k) % hs.length : Nat) : Int), undef, undef, undef, undef, undef, undef, undef], defers := [] })
    ?assign ?body ?done ?stop
  case start =>
    have B1 : Below s w ((W0.alloc (.deferred (some []))).alloc (.loop r)) := (B0.alloc (by omega) _).alloc (by simp; omega) _
    by_cases ho : last < 0 ∨ last ≥ (hs.length : Int)
    · rw [if_pos ho]
      have ne : ∀ {B : Nat} {t : TypeId} {v : Value}, Boxed W0 B t v → B ≠ s + 4 → Boxed (((W0.alloc (.deferred (some []))).alloc (.loop r)).setCell ⟨s + 4, 0, none⟩ (.int .i64 ((hs.length : Int) - 1))) B t v := fun h hn => ((h.alloc _).alloc _).kept (grownBy_setCell' _ _ _) (fun e => hn (Option.some.inj e))
      rw [if_pos ho] at hT
      subst hT
      exact ⟨B1.setCell (p := ⟨s + 4, 0, none⟩) (by simp) _, ne bL (by omega), ne bA (by omega), ne bO (by omega), ne bN (by omega), ((bT.alloc _).alloc _).set _, fun j hj => by omega⟩
    · rw [if_neg ho]
      rw [if_neg ho] at hT
      subst hT
      exact ⟨B1, (bL.alloc _).alloc _, (bA.alloc _).alloc _, (bO.alloc _).alloc _, (bN.alloc _).alloc _, (bT.alloc _).alloc _, fun j hj => by omega⟩
  case assign =>
    intro k W K hK
    revert hK
    generalize (((st hs.length last + 1 + k) % hs.length : Nat) : Int) = x
    intro hK
    gi_wp2
    exact hK
  case body =>
    rintro k W hk ⟨hB, b1, b2, b3, b4, b5, hall⟩
    clear hT
    obtain ⟨x, hx⟩ : ∃ x, (st hs.length last + 1 + k) % hs.length = x := ⟨_, rfl⟩
    have hxl : x < hs.length := by rw [← hx]; exact Nat.mod_lt _ (by omega)
    obtain ⟨b, rfl, hb, hc⟩ := hp x hxl
    have hc' := (hB.cell (p := ⟨b, x * 33 + 30, none⟩) (by omega)).trans hc
    have d1 := b1.cell
    have d2 := b2.cell
    have d3 := b3.cell
    have f2 := b2.frozen
    have f3 := b3.frozen
    obtain ⟨v, hv⟩ : ∃ v, (hs[x]?).getD false = v := ⟨_, rfl⟩
    rw [hv] at hc'
    simp only [hx]
    cases v
    · have e := nxt_some hk (by rw [hx]; exact hv) hall
      rw [hx] at e
      rw [e]
      gi_wp2
      have k1 : Boxed (W.setCell ⟨s + 1, 0, none⟩ (.int .i64 x)) (s + 2) 4 (.bool false) := b3.kept (grownBy_setCell' _ _ _) (fun e => by have := Option.some.inj e; omega)
      exact ⟨(KeepsOthers.setCell _ _ _).trans (KeepsOthers.setCell _ _ _), (hB.setCell (p := ⟨s + 1, 0, none⟩) (by simp) _).setCell (p := ⟨s + 2, 0, none⟩) (by simp) _,
        (b2.set _).kept (grownBy_setCell' _ _ _) (fun e => by have := Option.some.inj e; omega), k1.set _⟩
    · gi_wp2
      exact ⟨KeepsOthers.refl _, hB, b1, b2, b3, b4, b5, fun j hj => by
        by_cases hjk : j < k
        · exact hall j hjk
        · obtain rfl : j = k := by omega
          rw [hx]; exact hv⟩
  case done =>
    rintro W ⟨hB, b1, b2, b3, b4, b5, hall⟩ hK
    clear hT
    have e := nxt_none hall
    have d2 := b2.cell
    have d3 := b3.cell
    have f2 := b2.frozen
    have f3 := b3.frozen
    gi_wp2
    have k1 : Boxed (W.setCell ⟨s + 1, 0, none⟩ (.int .i64 0)) (s + 2) 4 (.bool false) := b3.kept (grownBy_setCell' _ _ _) (fun e => by have := Option.some.inj e; omega)
    have k2 : Boxed ((W.setCell ⟨s + 1, 0, none⟩ (.int .i64 0)).setCell ⟨s + 2, 0, none⟩ (.bool false)) (s + 1) 3 (.int .i64 0) := (b2.set _).kept (grownBy_setCell' _ _ _) (fun e => by have := Option.some.inj e; omega)
    have k3 := k1.set (.bool false)
    have hK' := ((KeepsOthers.setCell W ⟨s + 1, 0, none⟩ (.int .i64 0)).trans (KeepsOthers.setCell _ ⟨s + 2, 0, none⟩ (.bool false))).same _ _ hK rfl
    have q2 := (k2.kept (grownBy_putObj' _ W0.heap.size (.deferred none)) (fun e => by have := Option.some.inj e; omega)).cell
    have q3 := (k3.kept (grownBy_putObj' _ W0.heap.size (.deferred none)) (fun e => by have := Option.some.inj e; omega)).cell
    refine ⟨by simp, .inl ⟨_, _, rfl, run_takeDeferred hK', ?_⟩⟩
    refine ⟨.tuple #[.int .i64 0, .bool false], ?_, by rw [e]; rfl, ?_⟩
    · simp [results, Try.f9, go_sem, q2, q3]
    · rw [hs0]
      exact belowPut ((hB.setCell (p := ⟨s + 1, 0, none⟩) (by simp) _).setCell (p := ⟨s + 2, 0, none⟩) (by simp) _) (by simp; exact hcl _ hB) (by omega) _
  case stop =>
    rintro W ⟨hB, b2, b3, h2⟩ hK
    clear hT
    have d2 := b2.cell
    have d3 := b3.cell
    gi_wp2
    have q2 := (b2.kept (grownBy_putObj' _ W0.heap.size (.deferred none)) (fun e => by have := Option.some.inj e; omega)).cell
    have q3 := (b3.kept (grownBy_putObj' _ W0.heap.size (.deferred none)) (fun e => by have := Option.some.inj e; omega)).cell
    refine ⟨by simp, .inl ⟨_, _, rfl, run_takeDeferred hK, ?_⟩⟩
    refine ⟨.tuple #[.int .i64 ((nxt hs last).1 : Int), .bool true], ?_, by rw [h2], ?_⟩
    · simp [results, Try.f9, go_sem, q2, q3]
    · rw [hs0]
      exact belowPut hB (hcl _ hB) (by omega) _
end Go.Proofs.Ytppaegfmmegabaa.Sched
