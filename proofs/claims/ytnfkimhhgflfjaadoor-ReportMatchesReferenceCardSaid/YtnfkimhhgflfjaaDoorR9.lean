/- A region that draws its order, inside a round. -/
import Derived.Test.YtnfkimhhgflfjaaDoorR8
import Derived.RangeFuncNested
import Derived.RangeFuncBound
import Derived.RangeFuncCalls
import Derived.RangeFuncLeaves
import Derived.Shelf.Abstract
import Derived.OwnWalkIn
import Derived.TacticsInMore
import Derived.LoopNIn
import Derived.LoopIn
import Derived.Stop.RegionWithIn
namespace Go.Proofs.YtnfkimhhgflfjaaDoor.Rep
open Go Go.RowKit Go.Shelf
set_option linter.unusedVariables false
set_option linter.unusedSimpArgs false
/-! ### A region that draws its order, inside a round -/
theorem upon_in {l n : Nat} {o : Oper} {a : Act} {K : Act → World → Prop} {Q : Exit → Act → World → Prop} {r : Result Next} (h : o.upon Tryd.prog a K Q r) : o.uponIn (Fence.wide.inRound l) n Tryd.prog a K Q r := by
  cases r with
  | ok x w' =>
    cases x with
    | enter f args => exact ⟨fun h => (by cases h), CallsIn.inRound l (callsIn_wide.2 h)⟩
    | row r args => exact ⟨fun h => (by cases h), fun c cs _ => let ⟨v, w1, r, s⟩ := h c cs; ⟨v, w1, r, stepsIn_wide.2 s⟩⟩
    | round => exact h.elim
    | _ => exact h
  | halt x w' => cases x <;> exact h
theorem wpOp_in {l n : Nat} {ops : Array Oper} {Q : Exit → Act → World → Prop} (hd : ∀ (i : Nat) o, ops[i]? = some o → ∀ c, o.op ≠ .defer c) (hL : ¬ LetsOut Q) {i : Nat} {K : Act → World → Prop} {a : Act} {w : World} (h : wpOp Tryd.prog ops Q i K a w) : wpOpIn (Fence.wide.inRound l) n Tryd.prog ops Q i K a w := by
  unfold wpOp at h
  unfold wpOpIn
  cases ho : ops[i]? with
  | none => rw [ho] at h; exact h
  | some o =>
    rw [ho] at h
    dsimp only at h ⊢
    split
    · rename_i hw
      rw [if_pos hw] at h
      refine ⟨fun _ _ => trivial, ?_⟩
      rw [Fence.inRound_round, Oper.semAt_some l _ _ (hd i o ho)]
      exact upon_in (h.resolve_right (fun h => hL h.2))
    · rename_i hw
      rw [if_neg hw] at h
      exact ⟨fun _ _ => trivial, h⟩
theorem wpAny_in {l n : Nat} {ops : Array Oper} {Q : Exit → Act → World → Prop} (hd : ∀ (i : Nat) o, ops[i]? = some o → ∀ c, o.op ≠ .defer c) (hL : ¬ LetsOut Q) : ∀ (fuel : Nat) (listed : Array Bool) (a : Act) (w : World), wpAny Tryd.prog .any ops Q fuel listed a w → wpAnyIn (Fence.wide.inRound l) n Tryd.prog .any ops Q fuel listed a w
  | 0, _, _, _, h => h
  | fuel + 1, listed, a, w, h => ⟨h.1, fun i hi => wpOpIn_mono (fun a' w' h' => wpAny_in hd hL fuel _ a' w' h') (wpOp_in hd hL (h.2 i hi))⟩
/-- A region that draws its order, in a round: the cells that S names are there throughout. -/
theorem region_round {l n id : Nat} {ops : Array Oper} {Q : Exit → Act → World → Prop} {S : World → Prop} {a : Act} {w : World} (hd : ∀ (i : Nat) o, ops[i]? = some o → ∀ c, o.op ≠ .defer c) (hL : ¬ LetsOut Q) (hS : S w.drew)
    (h : S w.drew → wpAnyH Tryd.prog .any ops Q S ops.size (Array.replicate ops.size false) a w.drew) : (Code.region id ops true).wpIn (Fence.wide.inRound l) n Tryd.prog Q a w :=
  wpIn_region_any (by kernel_rfl) (wpAny_in hd hL _ _ _ _ (wpAny_of_held _ _ _ _ (h hS)))
/-- No operation of the region defers. -/
def noDefer (ops : Array Oper) : Bool := ops.all (fun o => match o.op with | .defer _ => false | _ => true)
theorem noDefer_spec {ops : Array Oper} (h : noDefer ops = true) : ∀ (i : Nat) o, ops[i]? = some o → ∀ c, o.op ≠ .defer c := fun i o ho c hc => by
  have h1 := Array.all_eq_true_iff_forall_mem.1 h o (Array.mem_of_getElem? ho)
  rw [hc] at h1
  cases h1
/-- Operation z waits for operation i. -/
def waitsOn (ops : Array Oper) (z i : Nat) : Bool := match ops[z]? with
  | some o => o.after.any (fun e => Region.binds .any e && e.on == i)
  | none => true
theorem waitsOn_spec {ops : Array Oper} {z i : Nat} (h : waitsOn ops z i = true) : ∀ oz, ops[z]? = some oz → ∃ e ∈ oz.after, Region.binds .any e = true ∧ e.on = i := fun oz ho => by
  unfold waitsOn at h
  rw [ho] at h
  obtain ⟨j, hj, hb⟩ := Array.any_eq_true.1 h
  have h2 := Bool.and_eq_true _ _ ▸ hb
  exact ⟨_, Array.getElem_mem hj, h2.1, by simpa using h2.2⟩
/-! ### The same, where the last operation may write what a load has read -/
section
variable {ops : Array Oper} {Q : Exit → Act → World → Prop} {S : World → Prop} {z : Nat}
/-- Whatever comes up next, S holds behind it, but behind operation z. -/
def wpT (ops : Array Oper) (Q : Exit → Act → World → Prop) (S : World → Prop) (z : Nat) : Nat → Array Bool → Act → World → Prop
  | 0, listed, a, w => Region.ready .any ops listed = [] ∧ Q .normal a w
  | m + 1, listed, a, w => (Region.ready .any ops listed = [] → Q .normal a w) ∧
    ∀ j ∈ Region.ready .any ops listed, wpOp Tryd.prog ops Q j (fun a1 w1 => (j ≠ z → S w1) ∧ wpT ops Q S z m (listed.setIfInBounds j true) a1 w1) a w
theorem wpT_any : ∀ (m : Nat) (listed : Array Bool) (a : Act) (w : World), wpT ops Q S z m listed a w → wpAny Tryd.prog .any ops Q m listed a w
  | 0, _, _, _, h => h
  | m + 1, _, _, _, h => ⟨h.1, fun j hj => wpOp_mono (fun _ _ h1 => wpT_any m _ _ _ h1.2) (h.2 j hj)⟩
/-- An operation that yields one value wherever S holds, and for which z waits, may be taken first. -/
theorem wpT_front {i : Nat} {oi : Oper} {v : Value} (hi : ops[i]? = some oi) (hz : i ≠ z) (hw : ∀ oz, ops[z]? = some oz → ∃ e ∈ oz.after, Region.binds .any e = true ∧ e.on = i)
    (hsel : ∀ (j : Nat) (o : Oper) cs b, ops[j]? = some o → o.op ≠ .select cs b) (hQ : ∀ c a w, Q (.panic c) (a.put oi.dst v) w → Q (.panic c) a w) :
    ∀ (m : Nat) (listed : Array Bool) (a : Act) (w : World),
      (∀ j oj, ops[j]? = some oj → j ≠ i → listed.getD j true = false → (∀ e ∈ oj.after, Region.binds .any e = true → e.on ≠ i) → oi.apart ops oj = true) →
      i ∈ Region.ready .any ops listed → YieldsIf Tryd.prog ops S oi v a → S w → wpT ops Q S z m (listed.setIfInBounds i true) (a.put oi.dst v) w → wpT ops Q S z (m + 1) listed a w
  | 0, listed, a, w, _, hr, hy, hS, H => by
    refine ⟨fun h => (by rw [h] at hr; cases hr), fun j hj => ?_⟩
    by_cases e : j = i
    · subst e; exact hy.wpOp hi hS ⟨fun _ => hS, H⟩
    · have h1 := ready_mono hj e
      rw [H.1] at h1
      cases h1
  | m + 1, listed, a, w, hap, hr, hy, hS, H => by
    refine ⟨fun h => (by rw [h] at hr; cases hr), fun j hj => ?_⟩
    by_cases e : j = i
    · subst e; exact hy.wpOp hi hS ⟨fun _ => hS, H⟩
    · obtain ⟨u1, oj, hoj, hall⟩ := mem_ready.1 hj
      have u2 : listed.getD i true = false := (mem_ready.1 hr).1
      have hno : ∀ e ∈ oj.after, Region.binds .any e = true → e.on ≠ i := fun x hx hb hxi => by
        have h1 := hall x hx hb
        rw [hxi] at h1
        have h2 : ∀ L : Array Bool, L.getD i true = false → L.getD i false = true → False := fun L p q => by
          by_cases hL : i < L.size
          · simp [hL] at p q; rw [p] at q; cases q
          · simp [Array.getElem?_eq_none (Nat.le_of_not_lt hL)] at q
        exact h2 _ u2 h1
      have hjz : j ≠ z := fun hjz => by
        obtain ⟨x, hx, hb, hxi⟩ := hw oj (hjz ▸ hoj)
        exact hno x hx hb hxi
      have step := wpOp_putIf hoj (hap j oj hoj e u1 hno) (fun cs b => hsel i oi cs b hi) (fun cs b => hsel j oj cs b hoj) hQ hy (H.2 j (ready_mono hj e))
      refine wpOp_mono (fun a1 w1 h3 => ⟨fun _ => h3.2.1 hjz, ?_⟩) step
      refine wpT_front hi hz hw hsel hQ m (listed.setIfInBounds j true) a1 w1 (fun k ok hk hki hun hn => hap k ok hk hki ?_ hn) (ready_mono hr (Ne.symm e)) h3.1 (h3.2.1 hjz) ?_
      · by_cases hjk : j = k
        · subst hjk; exact u1
        · rwa [getD_set_ne true hjk] at hun
      · rw [Array.setIfInBounds_comm _ _ e]
        exact h3.2.2
theorem wpT_take {i : Nat} {oi : Oper} {v : Value} {m : Nat} {listed : Array Bool} {a : Act} {w : World} (hi : ops[i]? = some oi) (hz : i ≠ z) (hw : waitsOn ops z i = true)
    (hs : Region.noSelect ops = true) (hf : Region.free .any ops listed i = true) (hr : (Region.ready .any ops listed).contains i = true)
    (hQ : ∀ c a w, Q (.panic c) (a.put oi.dst v) w → Q (.panic c) a w) (hwt : Region.wanted oi (yielded ops a.tmps) = true) (hy : ∀ w, S w → (execOp a.eval oi).run Tryd.prog w = .ok (.value v) w) (hS : S w)
    (h : wpT ops Q S z m (listed.setIfInBounds i true) (a.put oi.dst v) w) : wpT ops Q S z (m + 1) listed a w :=
  wpT_front hi hz (waitsOn_spec hw) (Region.noSelect_spec hs) hQ m listed a w (Region.free_spec hi hf) (by simpa using hr) (.inl ⟨hwt, hy⟩) hS h
/-- The one operation that may come up comes up. -/
theorem wpT_step {i : Nat} {o : Oper} {m : Nat} {listed : Array Bool} {a : Act} {w : World} (hr : Region.ready .any ops listed = [i]) (ho : ops[i]? = some o) (hg : o.guard = none)
    (h : ∀ K : Act → World → Prop, (∀ a1 w1, (i ≠ z → S w1) → wpT ops Q S z m (listed.setIfInBounds i true) a1 w1 → K a1 w1) → Oper.wp Tryd.prog o a w K Q) : wpT ops Q S z (m + 1) listed a w := by
  refine ⟨fun h0 => (by rw [hr] at h0; cases h0), fun j hj => ?_⟩
  rw [hr] at hj
  obtain rfl := List.mem_singleton.1 hj
  refine wpOp_step ho fun K hK => ?_
  have hwt : Region.wanted o (yielded ops a.tmps) = true := by simp [Region.wanted, hg]
  rw [if_pos hwt]
  exact h K (fun a1 w1 h1 h2 => hK a1 w1 ⟨h1, h2⟩)
theorem wpT_done {m : Nat} {listed : Array Bool} {a : Act} {w : World} (hr : Region.ready .any ops listed = []) (h : Q .normal a w) : wpT ops Q S z m listed a w := by
  cases m with
  | zero => exact ⟨hr, h⟩
  | succ m => exact ⟨fun _ => h, fun j hj => (by rw [hr] at hj; cases hj)⟩
theorem round_t {l n id : Nat} {a : Act} {w : World} (hd : noDefer ops = true) (hL : ¬ LetsOut Q)
    (h : wpT ops Q S z ops.size (Array.replicate ops.size false) a w.drew) : (Code.region id ops true).wpIn (Fence.wide.inRound l) n Tryd.prog Q a w :=
  wpIn_region_any (by kernel_rfl) (wpAny_in (noDefer_spec hd) hL _ _ _ _ (wpT_any _ _ _ _ h))
end
end Go.Proofs.YtnfkimhhgflfjaaDoor.Rep
