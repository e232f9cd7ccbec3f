/- gaolerlaw28.awake: its texts. -/
import Derived.Test.YtnfkimhhgflfjaaDoorR21
namespace Go.Proofs.YtnfkimhhgflfjaaDoor.Rep
open Go Go.RowKit Go.Shelf
set_option linter.unusedVariables false
set_option linter.unusedSimpArgs false
/-! ### gaolerlaw28.awake -/
def awV : Vp := { regs := List.replicate 16 0, pc := 8, csr := List.replicate 12 0, out := [0, 255], halted := true, done := 5, log := [⟨3, 2, 18446744073709551615⟩] }
def awT : List UInt8 := [103, 117, 101, 115, 116, 32, 53, 32, 56, 32, 104, 97, 108, 116, 101, 100, 32, 48, 48, 102, 102, 10, 116, 105, 109, 101, 104, 32, 50, 32, 49, 56, 52, 52, 54, 55, 52, 52, 48, 55, 51, 55, 48, 57, 53, 53, 49, 54, 49, 53, 10]
def awB : List UInt8 := [103, 117, 101, 115, 116, 32, 48, 48, 32, 48, 32, 114, 117, 110, 110, 105, 110, 103, 32, 45, 10]
def awZ : List UInt8 := [103, 117, 101, 115, 116, 32, 48, 32, 48, 32, 114, 117, 110, 110, 105, 110, 103, 32, 45, 10]
theorem awV_wf : awV.wf := ⟨rfl, rfl, by unfold w32 awV; dsimp only; omega, by unfold awV; dsimp only; omega, fun e he => by
  unfold awV at he
  rw [List.mem_singleton] at he
  subst he
  unfold Ev.wf
  dsimp only
  omega, fun z hz => by unfold awV at hz; rw [List.eq_of_mem_replicate hz]; unfold w32; omega, fun z hz => by unfold awV at hz; rw [List.eq_of_mem_replicate hz]; unfold w32; omega⟩
theorem aw_ok : fOk awV = true := by decide
theorem dec_lt (n : Nat) (l : List UInt8) (h : Lib.decDigits n = l) : Lib.decDigits n = l := h
theorem aw_text : textL awV = awT := by decide +kernel
theorem aw_zero : textL zeroV = awZ ∧ fOk zeroV = true := by decide +kernel
theorem aw_neg : fOk { zeroV with done := -1 } = false := by decide
theorem aw_bad : okS awB = false := by
  cases ho : okS awB with
  | false => rfl
  | true =>
    exfalso
    unfold okS at ho
    obtain ⟨a, b⟩ := Bool.and_eq_true _ _ ▸ ho
    have b := of_decide_eq_true b
    unfold fmtS at b
    rw [if_pos a] at b
    have b : textL (readS awB) = awB := by
      have := congrArg (fun z : ByteArray => z.data.toList) b
      simpa using this
    have hs2 := split_text (readS awB)
    rw [b, show splitL awB = ([[103, 117, 101, 115, 116, 32, 48, 48, 32, 48, 32, 114, 117, 110, 110, 105, 110, 103, 32, 45]], []) by rfl] at hs2
    have h1 := congrArg (fun z => pcs (z.1.headD [])) hs2
    dsimp only at h1
    unfold linesV at h1
    rw [List.headD_cons, List.headD_cons, pcs_join (headL _) (by simp [headL]) (head_no _ 32 (.inr rfl))] at h1
    have h2 : pcs [103, 117, 101, 115, 116, 32, 48, 48, 32, 48, 32, 114, 117, 110, 110, 105, 110, 103, 32, 45] = [[103, 117, 101, 115, 116], [48, 48], [48], [114, 117, 110, 110, 105, 110, 103], [45]] :=
      pcs_join [[103, 117, 101, 115, 116], [48, 48], [48], [114, 117, 110, 110, 105, 110, 103], [45]] (by simp) (by decide)
    rw [h2] at h1
    have h3 : Lib.decDigits (readS awB).done.toNat = [48, 48] := by
      unfold headL at h1
      simp only [List.cons.injEq] at h1
      exact h1.2.1.symm
    have h4 := (fOk_parts a).2.2
    have h5 := pB_dec 64 (readS awB).done.toNat (by decide) (by omega)
    rw [h3, show Lib.parseUintB 64 [48, 48] = .ok 0 by rfl] at h5
    injection h5 with h5
    rw [← h5, Lib.decDigits_one (by omega)] at h3
    exact absurd h3 (by decide)
theorem aw_parse (W : World) (hE : Env W) : Calls Tryd.prog 10 #[.string ⟨awT.toArray⟩] W fun e w' => Below W.heap.size W w' ∧ ParE awV true e w' := by
  have h := parse_any (textL awV) (by rw [aw_text]; decide) W hE
  rw [read_text awV_wf aw_ok, ok_text awV_wf aw_ok, aw_text] at h
  exact h
theorem aw_parseB (W : World) (hE : Env W) : Calls Tryd.prog 10 #[.string ⟨awB.toArray⟩] W fun e w' => Below W.heap.size W w' ∧ ParE (readS awB) false e w' := by
  have h := parse_any awB (by decide) W hE
  rw [aw_bad] at h
  exact h
theorem vc_lit (W : World) {v : Vp} (hw : v.wf) (ho : v.out = []) (hl : v.log = []) : VC W (vcs v none 0 none 0) v :=
  ⟨hw, none, 0, none, 0, rfl, fun k c hk => (by rw [ho] at hk; cases hk), fun k e hk => (by rw [hl] at hk; cases hk)⟩
theorem negV_wf : ({ zeroV with done := -1 } : Vp).wf := ⟨rfl, rfl, zeroV_wf.pc, by dsimp only; omega, zeroV_wf.log, zeroV_wf.r32, zeroV_wf.c32⟩
theorem aw_fmtN (W : World) (hE : Env W) : Calls Tryd.prog 8 #[.agg #[Value.int .u32 0, Value.int .u32 0, Value.int .u32 0, Value.int .u32 0, Value.int .u32 0, Value.int .u32 0, Value.int .u32 0, Value.int .u32 0, Value.int .u32 0, Value.int .u32 0, Value.int .u32 0, Value.int .u32 0, Value.int .u32 0, Value.int .u32 0, Value.int .u32 0, Value.int .u32 0, Value.int .u32 0, Value.int .u32 0, Value.int .u32 0, Value.int .u32 0, Value.int .u32 0, Value.int .u32 0, Value.int .u32 0, Value.int .u32 0, Value.int .u32 0, Value.int .u32 0, Value.int .u32 0, Value.int .u32 0, Value.int .u32 0, .slice none 0 0, .bool false, .int .i64 (-1), .slice none 0 0]] W fun e w' => e = .returned (.tuple #[.string .empty, .int .i64 1]) ∧ Below W.heap.size W w' := by
  have h := format_any (vcs { zeroV with done := -1 } none 0 none 0) { zeroV with done := -1 } W hE (vc_lit W negV_wf rfl rfl) (Nat.zero_le _) (Nat.zero_le _)
  unfold fmtS fmtE at h
  rw [if_neg (by rw [aw_neg]; decide), if_neg (by rw [aw_neg]; decide)] at h
  exact h
theorem aw_fmtZ (W : World) (hE : Env W) : Calls Tryd.prog 8 #[.agg #[Value.int .u32 0, Value.int .u32 0, Value.int .u32 0, Value.int .u32 0, Value.int .u32 0, Value.int .u32 0, Value.int .u32 0, Value.int .u32 0, Value.int .u32 0, Value.int .u32 0, Value.int .u32 0, Value.int .u32 0, Value.int .u32 0, Value.int .u32 0, Value.int .u32 0, Value.int .u32 0, Value.int .u32 0, Value.int .u32 0, Value.int .u32 0, Value.int .u32 0, Value.int .u32 0, Value.int .u32 0, Value.int .u32 0, Value.int .u32 0, Value.int .u32 0, Value.int .u32 0, Value.int .u32 0, Value.int .u32 0, Value.int .u32 0, .slice none 0 0, .bool false, .int .i64 0, .slice none 0 0]] W fun e w' => e = .returned (.tuple #[.string ⟨awZ.toArray⟩, .int .i64 0]) ∧ Below W.heap.size W w' := by
  have h := format_any (vcs zeroV none 0 none 0) zeroV W hE (vc_lit W zeroV_wf rfl rfl) (Nat.zero_le _) (Nat.zero_le _)
  unfold fmtS fmtE at h
  rw [if_pos aw_zero.2, if_pos aw_zero.2, aw_zero.1] at h
  exact h
end Go.Proofs.YtnfkimhhgflfjaaDoor.Rep
