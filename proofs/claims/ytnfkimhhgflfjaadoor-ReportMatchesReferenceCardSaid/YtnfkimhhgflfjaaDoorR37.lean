/- What gaolerref28.Get reads out of a report: plain. -/
import Derived.Test.YtnfkimhhgflfjaaDoorR36
import Derived.Test.YtnfkimhhgflfjaaDoorR34
import Derived.Test.YtnfkimhhgflfjaaDoorR16
namespace Go.Proofs.YtnfkimhhgflfjaaDoor.Rep
open Go Go.RowKit Go.Shelf
set_option linter.unusedVariables false
set_option linter.unusedSimpArgs false
/-! ### What gaolerref28.Get reads out of a text: plain -/
theorem wordsA_app : ∀ (y f r : List UInt8) (cur : List (List UInt8)), (10 : UInt8) ∉ y → (32 : UInt8) ∉ y → wordsA f cur (y ++ r) = wordsA (f ++ y) cur r
  | [], f, r, cur, _, _ => by rw [List.nil_append, List.append_nil]
  | c :: y, f, r, cur, h1, h2 => by
    rw [List.cons_append, wordsA, if_neg (fun e => h1 (by rw [e]; exact List.mem_cons_self)), if_neg (fun e => h2 (by rw [e]; exact List.mem_cons_self)), wordsA_app y (f ++ [c]) r cur (fun e => h1 (List.mem_cons_of_mem _ e)) (fun e => h2 (List.mem_cons_of_mem _ e)), List.append_assoc]
    rfl
theorem wordsA_join : ∀ (l : List (List UInt8)) (r : List UInt8) (cur : List (List UInt8)), l ≠ [] → (∀ x ∈ l, (10 : UInt8) ∉ x ∧ (32 : UInt8) ∉ x) → wordsA [] cur (Lib.join l [32] ++ 10 :: r) = (cur ++ l) :: wordsA [] [] r
  | [], _, _, h, _ => absurd rfl h
  | [x], r, cur, _, h => by
    obtain ⟨h1, h2⟩ := h x List.mem_cons_self
    rw [show Lib.join [x] [32] = x by simp [Lib.join, List.intercalate], wordsA_app x [] _ cur h1 h2, wordsA, if_pos rfl, List.nil_append]
  | x :: y :: l, r, cur, _, h => by
    obtain ⟨h1, h2⟩ := h x List.mem_cons_self
    rw [join_cons, List.append_assoc, wordsA_app x [] _ cur h1 h2, List.nil_append, List.append_assoc, List.cons_append, List.nil_append, wordsA, if_neg (by decide), if_pos rfl, wordsA_join (y :: l) r (cur ++ [x]) (by simp) (fun z hz => h z (List.mem_cons_of_mem _ hz)), List.append_assoc]
    rfl
theorem words_glue : ∀ (ls : List (List (List UInt8))), (∀ l ∈ ls, l ≠ [] ∧ ∀ x ∈ l, (10 : UInt8) ∉ x ∧ (32 : UInt8) ∉ x) → wordsG (ls.flatMap lineS) = ls
  | [], _ => rfl
  | l :: ls, h => by
    obtain ⟨h1, h2⟩ := h l List.mem_cons_self
    have ih := words_glue ls (fun z hz => h z (List.mem_cons_of_mem _ hz))
    unfold wordsG at ih ⊢
    rw [List.flatMap_cons, show lineS l ++ List.flatMap lineS ls = Lib.join l [32] ++ 10 :: List.flatMap lineS ls by unfold lineS; rw [List.append_assoc]; rfl, wordsA_join l _ [] h1 h2, ih]
    rfl
theorem words_text (v : Vp) : wordsG (textL v) = headL v :: v.log.map evL := by
  have e : textL v = (headL v :: v.log.map evL).flatMap lineS := by
    unfold textL
    rw [List.flatMap_cons, List.flatMap_map]
  rw [e]
  refine words_glue _ (fun l hl => ?_)
  rcases List.mem_cons.1 hl with rfl | hl
  · exact ⟨by simp [headL], fun x hx => ⟨head_no v 10 (.inl rfl) x hx, head_no v 32 (.inr rfl) x hx⟩⟩
  · obtain ⟨e, _, rfl⟩ := List.mem_map.1 hl
    exact ⟨by simp [evL], fun x hx => ⟨ev_no e 10 (.inl rfl) x hx, ev_no e 32 (.inr rfl) x hx⟩⟩
/-! numbers and bytes -/
theorem numW_append : ∀ (a b : List UInt8) (n : Nat), numW (a ++ b) n = numW b (numW a n)
  | [], _, _ => rfl
  | c :: a, b, n => by rw [List.cons_append, numW, numW, numW_append a b]
theorem numW_dec : ∀ n : Nat, n < 18446744073709551616 → numW (Lib.decDigits n) 0 = n := by
  intro n
  induction n using Nat.strongRecOn with
  | _ n ih =>
    intro h
    by_cases h10 : n < 10
    · rw [Lib.decDigits_one h10, numW, numW, UInt8.toNat_ofNat']
      omega
    · rw [Lib.decDigits, dif_neg h10, numW_append, ih (n / 10) (by omega) (by omega), numW, numW, UInt8.toNat_ofNat']
      omega
def pvG (a b : UInt8) : UInt8 := UInt8.ofNat ((16 * (digitB a).toNat + (digitB b).toNat) % 256)
def unhexG : List UInt8 → List UInt8
  | a :: b :: r => pvG a b :: unhexG r
  | _ => []
theorem pvG_hexd : ∀ n : Nat, n < 256 → pvG (hexd (n / 16)) (hexd (n % 16)) = UInt8.ofNat n := by decide +kernel
theorem unhexG_hexF : ∀ l : List UInt8, unhexG (hexF l) = l
  | [] => rfl
  | c :: l => by rw [hexF, unhexG, unhexG_hexF l, pvG_hexd c.toNat c.toNat_lt, UInt8.ofNat_toNat]
theorem unhexG_hexS (l : List UInt8) : unhexG (hexS l) = l := by
  unfold hexS
  split
  · rename_i h; rw [h]; rfl
  · exact unhexG_hexF l
def kindG (l : List UInt8) : Int := if l = [116, 105, 109, 101, 114] then 1 else if l = [116, 105, 109, 101] then 2 else if l = [116, 105, 109, 101, 104] then 3 else 0
theorem kindG_word : ∀ k : Nat, 1 ≤ k → k ≤ 3 → kindG (wordsL.getD k []) = (k : Int)
  | 0, h, _ => absurd h (by omega)
  | 1, _, _ => rfl
  | 2, _, _ => rfl
  | 3, _, _ => rfl
  | k + 4, _, h => absurd h (by omega)
theorem kindG_bd (l : List UInt8) : 0 ≤ kindG l ∧ kindG l ≤ 3 := by
  unfold kindG
  repeat' split
  all_goals omega
def evG (l : List (List UInt8)) : Ev := { kind := kindG (l.getD 0 []), pos := ((numW (l.getD 1 []) 0 % 2199023255552 : Nat) : Int), time := (numW (l.getD 2 []) 0 : Int) }
/-- What the head line tells. -/
def headG (l : List (List UInt8)) : Vp := { regs := List.replicate 16 0, pc := ((numW (l.getD 2 []) 0 % 4294967296 : Nat) : Int), csr := List.replicate 12 0, out := unhexG (l.getD 4 []), halted := decide (l.getD 3 [] = [104, 97, 108, 116, 101, 100]), done := ((numW (l.getD 1 []) 0 % 2199023255552 : Nat) : Int), log := [] }
/-- What a line makes of the state. -/
def stepG (k : Nat) (v : Vp) (l : List (List UInt8)) : Vp :=
  if k = 0 ∧ l.length = 5 then headG l
  else if 0 < k ∧ l.length = 3 then { v with log := v.log ++ [evG l] } else v
def foldG : Nat → Vp → List (List (List UInt8)) → Vp
  | _, v, [] => v
  | k, v, x :: r => foldG (k + 1) (stepG k v x) r
/-- What gaolerref28.Get reads out of a text. -/
def getS (s : List UInt8) : Vp := foldG 0 zeroV (wordsG s)
theorem evG_wf (l : List (List UInt8)) : (evG l).wf := by
  have h1 := kindG_bd (l.getD 0 [])
  have h2 := numW_lt (l.getD 1 []) 0 (by decide)
  have h3 := numW_lt (l.getD 2 []) 0 (by decide)
  unfold Ev.wf evG
  dsimp only
  omega
theorem headG_wf (l : List (List UInt8)) : (headG l).wf :=
  ⟨rfl, rfl, by unfold w32 headG; dsimp only; omega, by unfold headG; dsimp only; omega, fun e he => (by cases he), fun z hz => by unfold headG at hz; rw [List.eq_of_mem_replicate hz]; unfold w32; omega, fun z hz => by unfold headG at hz; rw [List.eq_of_mem_replicate hz]; unfold w32; omega⟩
theorem stepG_wf {k : Nat} {v : Vp} (h : v.wf) (l : List (List UInt8)) : (stepG k v l).wf := by
  unfold stepG
  split
  · exact headG_wf l
  · split
    · exact ⟨h.regs, h.csr, h.pc, h.done, fun e he => by
        rcases List.mem_append.1 he with he | he
        · exact h.log e he
        · rw [List.mem_singleton] at he; subst he; exact evG_wf l, h.r32, h.c32⟩
    · exact h
theorem foldG_wf : ∀ (l : List (List (List UInt8))) (k : Nat) (v : Vp), v.wf → (foldG k v l).wf
  | [], _, _, h => h
  | x :: l, k, v, h => foldG_wf l (k + 1) _ (stepG_wf h x)
theorem getS_wf (s : List UInt8) : (getS s).wf := foldG_wf _ _ _ zeroV_wf
theorem evG_read {e : Ev} (hw : e.wf) (h : 1 ≤ e.kind ∧ e.kind ≤ 3 ∧ 0 ≤ e.pos ∧ e.pos < 1099511627776) : evG (evL e) = e := by
  obtain ⟨k, p, t⟩ := e
  unfold Ev.wf at hw
  dsimp only at hw h
  obtain ⟨k', rfl⟩ := Int.eq_ofNat_of_zero_le (show 0 ≤ k by omega)
  obtain ⟨p', rfl⟩ := Int.eq_ofNat_of_zero_le h.2.2.1
  obtain ⟨t', rfl⟩ := Int.eq_ofNat_of_zero_le hw.2.2.1
  unfold evG evL
  simp only [List.getD_cons_zero, List.getD_cons_succ, Int.toNat_natCast]
  rw [kindG_word k' (by omega) (by omega), numW_dec p' (by omega), numW_dec t' (by omega)]
  simp only [Ev.mk.injEq, true_and, and_true]
  omega
theorem foldG_log : ∀ (l : List Ev) (k : Nat) (v : Vp), 0 < k → (∀ e ∈ l, e.wf ∧ 1 ≤ e.kind ∧ e.kind ≤ 3 ∧ 0 ≤ e.pos ∧ e.pos < 1099511627776) → foldG k v (l.map evL) = { v with log := v.log ++ l }
  | [], k, v, _, _ => by rw [List.map_nil, foldG, List.append_nil]
  | e :: l, k, v, hk, h => by
    obtain ⟨h1, h2⟩ := h e List.mem_cons_self
    rw [List.map_cons, foldG]
    rw [show stepG k v (evL e) = { v with log := v.log ++ [e] } by
      unfold stepG
      rw [if_neg (by omega), if_pos ⟨hk, rfl⟩, evG_read h1 h2]]
    rw [foldG_log l (k + 1) _ (by omega) (fun x hx => h x (List.mem_cons_of_mem _ hx))]
    simp
theorem get_text {v : Vp} (hw : v.wf) (h : fOk v = true) : getS (textL v) = bareV v := by
  obtain ⟨h1, h2, h3⟩ := fOk_parts h
  have hev : ∀ e ∈ v.log, e.wf ∧ 1 ≤ e.kind ∧ e.kind ≤ 3 ∧ 0 ≤ e.pos ∧ e.pos < 1099511627776 := fun e he => by
    have := vld_each v.log v.done (-1) (by omega) h2 e he
    exact ⟨hw.log e he, this.1, this.2.1, this.2.2.1, by omega⟩
  have hpc := hw.pc
  unfold w32 at hpc
  unfold getS
  rw [words_text, foldG]
  have hf : stepG 0 zeroV (headL v) = { bareV v with log := [] } := by
    unfold stepG
    rw [if_pos ⟨rfl, rfl⟩]
    unfold headG headL bareV
    simp only [List.getD_cons_zero, List.getD_cons_succ]
    obtain ⟨d, hd⟩ := Int.eq_ofNat_of_zero_le h1.2.2.2
    obtain ⟨p, hp⟩ := Int.eq_ofNat_of_zero_le hpc.1
    rw [hd] at h3
    rw [hp] at hpc
    rw [hd, hp, Int.toNat_natCast, Int.toNat_natCast, numW_dec d (by omega), numW_dec p (by omega), how_read, unhexG_hexS]
    congr 1
    · omega
    · omega
  rw [hf, foldG_log v.log 1 _ (by omega) hev]
  simp [bareV]
/-- Whether gaolerref28.Get accepts a text. -/
def okG (s : List UInt8) : Bool := fOk (getS s) && decide (fmtS (getS s) = ⟨s.toArray⟩)
theorem readS_wf (s : List UInt8) : (readS s).wf := foldV_wf _ _ _ zeroV_wf
theorem fmt_text {v : Vp} {s : List UInt8} (h : (fOk v && decide (fmtS v = ⟨s.toArray⟩)) = true) : fOk v = true ∧ textL v = s := by
  obtain ⟨a, b⟩ := Bool.and_eq_true _ _ ▸ h
  have b := of_decide_eq_true b
  unfold fmtS at b
  rw [if_pos a] at b
  have := congrArg (fun z : ByteArray => z.data.toList) b
  exact ⟨a, by simpa using this⟩
theorem get_same (s : List UInt8) : okG s = okS s ∧ (okS s = true → getS s = readS s) := by
  cases ho : okS s with
  | true =>
    obtain ⟨a, b⟩ := fmt_text (v := readS s) ho
    have hw := readS_wf s
    have e1 : getS s = bareV (readS s) := by rw [← get_text hw a, b]
    have e2 : readS s = bareV (readS s) := by
      have := read_text hw a
      rwa [b] at this
    refine ⟨?_, fun _ => e1.trans e2.symm⟩
    unfold okG
    rw [e1.trans e2.symm]
    exact ho
  | false =>
    refine ⟨?_, fun h => by cases h⟩
    cases hg : okG s with
    | false => rfl
    | true =>
      obtain ⟨a, b⟩ := fmt_text (v := getS s) hg
      have := ok_text (getS_wf s) a
      rw [b, ho] at this
      cases this
end Go.Proofs.YtnfkimhhgflfjaaDoor.Rep
