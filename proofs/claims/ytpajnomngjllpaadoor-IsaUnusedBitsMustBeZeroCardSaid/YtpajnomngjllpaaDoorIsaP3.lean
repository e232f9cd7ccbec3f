/- Which words decode when one of the low 18 bits of a valid instruction's word is turned. -/
import Derived.Test.YtpajnomngjllpaaDoorIsaP
namespace Go.Proofs.YtpajnomngjllpaaDoor.Isa
open Go Go.RowKit Go.Proofs.YtpajnomngjllpaaDoor.PIsaUnusedBitsMustBeZero Go.Proofs.YtpajnomngjllpaaDoorW.PrintWords Go.Proofs.YtpajnomngjllpaaDoorW.PrintLast Go.Proofs.YtpajnomngjllpaaDoorW.PrintMore Go.Proofs.YtpajnomngjllpaaDoor.Bm
set_option linter.unusedVariables false
set_option linter.unusedSimpArgs false
/-- A bit of a word, turned. -/
def turn (w k : Nat) : Nat := ins w k 1 (1 - fld w k 1)
theorem turn_bit (w k j : Nat) : (turn w k).testBit j = if j = k then !w.testBit k else w.testBit j := by
  unfold turn
  rw [ins_bit]
  by_cases h : j < k
  · rw [if_pos h, if_neg (by omega)]
  · rw [if_neg h]
    by_cases h2 : j = k
    · subst h2
      rw [if_pos (by omega), if_pos rfl, Nat.sub_self, fld_one]
      cases w.testBit j <;> decide
    · rw [if_neg (by omega), if_neg h2]
theorem turn_lt {w k b : Nat} (hw : w < 2 ^ b) (hk : k < b) : turn w k < 2 ^ b := ins_lt hw (by omega)
theorem turn_high {w k : Nat} (hk : k < 18) : turn w k / 2 ^ 18 = w / 2 ^ 18 :=
  Nat.eq_of_testBit_eq fun j => by rw [Nat.testBit_div_two_pow, Nat.testBit_div_two_pow, turn_bit, if_neg (by omega)]
theorem turn_mod {w k : Nat} (hk : k < 18) : turn w k % 2 ^ 18 = turn (w % 2 ^ 18) k :=
  Nat.eq_of_testBit_eq fun j => by
    rw [mod_bit, turn_bit, turn_bit, mod_bit, mod_bit]
    by_cases h : j = k
    · subst h; rw [if_pos rfl, if_pos rfl, decide_eq_true hk]; simp
    · rw [if_neg h, if_neg h]
theorem ge_of_bit {x k : Nat} (h : x.testBit k = true) : 2 ^ k ≤ x := by
  rcases Nat.lt_or_ge x (2 ^ k) with g | g
  · rw [Nat.testBit_lt_two_pow g] at h; cases h
  · exact g
theorem sgn_small {x : Nat} (h : x < 12) : sgn x 18 = (x : Int) := by
  unfold sgn
  rw [Nat.mod_eq_of_lt (by omega), if_pos (by omega)]
/-- Which words of the same opcode and registers decode. -/
theorem dec_same {i : In} (h : vld i = true) {t : Nat} (ht : t / 262144 = encW i / 262144) :
    decOk t = if fmt i.op = 1 then decide (t % 262144 < 16) else if fmt i.op = 2 ∨ fmt i.op = 3 then true else if fmt i.op = 5 ∨ fmt i.op = 6 then decide (t % 262144 < 12) else decide (t % 262144 = 0) := by
  have hb := vld_bounds h
  have hl := lowrb_lt h
  obtain ⟨h0, h1, h2, h3, h4⟩ := vld_parts h
  obtain ⟨op, rd, ra, rb, imm⟩ := i
  dsimp only at *
  obtain ⟨o, rfl⟩ := Int.eq_ofNat_of_zero_le (show 0 ≤ op by omega)
  obtain ⟨d, rfl⟩ := Int.eq_ofNat_of_zero_le (show 0 ≤ rd by omega)
  obtain ⟨a, rfl⟩ := Int.eq_ofNat_of_zero_le (show 0 ≤ ra by omega)
  obtain ⟨b, rfl⟩ := Int.eq_ofNat_of_zero_le (show 0 ≤ rb by omega)
  simp only [Int.toNat_natCast] at *
  have ht' : t / 262144 = o * 256 + d * 16 + a := by rw [ht]; unfold encW; dsimp only; simp only [Int.toNat_natCast]; omega
  have e1 : t / 67108864 = o := by omega
  have e2 : t / 4194304 % 16 = d := by omega
  have e3 : t / 262144 % 16 = a := by omega
  have hx := Nat.mod_lt t (show 0 < 262144 by decide)
  unfold decOk
  by_cases hf : fmt (o : Int) = 1
  · have hI : decI t = ⟨(o : Int), (d : Int), (a : Int), ((t % 16 : Nat) : Int), 0⟩ := by unfold decI; rw [e1, e2, e3, if_pos hf]
    have hv : vld ⟨(o : Int), (d : Int), (a : Int), ((t % 16 : Nat) : Int), 0⟩ = true := by
      rw [hf] at h2 h3
      rw [vld_1 hf, show (rg (d : Int) true) = true from h2, show (rg (a : Int) true) = true from h3]
      simp [rg]
      omega
    rw [hI, hv, Bool.true_and, if_pos hf, Bool.eq_iff_iff, beq_iff_eq, decide_eq_true_iff]
    unfold encW
    dsimp only
    simp only [Int.toNat_natCast, wd_zero]
    omega
  · have hI : decI t = ⟨(o : Int), (d : Int), (a : Int), 0, sgn t 18⟩ := by unfold decI; rw [e1, e2, e3, if_neg hf]
    have hE : encW ⟨(o : Int), (d : Int), (a : Int), 0, sgn t 18⟩ = t := by
      have := wd_sgn (v := t) (n := 18) (by omega)
      rw [show (2 ^ 18 : Nat) = 262144 from rfl] at this
      unfold encW
      dsimp only
      rw [this]
      simp only [Int.toNat_natCast, Int.toNat_zero]
      omega
    have hr0 : ∀ b, rg 0 b = true := fun b => by cases b <;> rfl
    have hV : vld ⟨(o : Int), (d : Int), (a : Int), 0, sgn t 18⟩ = numOk (fmt (o : Int)) (sgn t 18) := by
      unfold vld
      dsimp only
      rw [h2, h3, hr0, beq_eq_false_iff_ne.2 h0]
      simp
    have hfit : fits (sgn t 18) 18 = true := fits_iff.2 (sgn_fits (by omega))
    have hz : (sgn t 18 = 0) ↔ t % 262144 = 0 := by
      unfold sgn
      rw [show (2 ^ 18 : Nat) = 262144 from rfl, show (2 ^ (18 - 1) : Nat) = 131072 from rfl]
      split <;> omega
    have hc : (sgn t 18 = 0 ∨ 0 < sgn t 18 ∧ sgn t 18 < 12) ↔ t % 262144 < 12 := by
      unfold sgn
      rw [show (2 ^ 18 : Nat) = 262144 from rfl, show (2 ^ (18 - 1) : Nat) = 131072 from rfl]
      split <;> omega
    rw [hI, hV, hE, beq_self_eq_true, Bool.and_true, if_neg hf]
    rcases fmt_cases (o : Int) with e | e | e | e | e | e | e | e <;> rw [e]
    · exact absurd e h0
    · exact absurd e hf
    · rw [if_pos (by decide)]; simp [numOk, hasF, ptl, hfit]
    · rw [if_pos (by decide)]; simp [numOk, hasF, ptl, hfit]
    · rw [if_neg (by decide), if_neg (by decide), Bool.eq_iff_iff, decide_eq_true_iff, ← hz]; simp [numOk, hasF, ptl]
    · rw [if_neg (by decide), if_pos (by decide), Bool.eq_iff_iff, decide_eq_true_iff, ← hc]; simp [numOk, hasF, ptl]
    · rw [if_neg (by decide), if_pos (by decide), Bool.eq_iff_iff, decide_eq_true_iff, ← hc]; simp [numOk, hasF, ptl]
    · rw [if_neg (by decide), if_neg (by decide), Bool.eq_iff_iff, decide_eq_true_iff, ← hz]; simp [numOk, hasF, ptl]
theorem enc_low {i : In} (h : vld i = true) : encW i % 262144 = wd i.imm % 262144 + i.rb.toNat := by
  have := lowrb_lt h
  unfold encW; omega
/-- The law's answer, by the format. -/
theorem dec_turn {i : In} (h : vld i = true) {k : Nat} (hk : k < 18) :
    decOk (turn (encW i) k) = if fmt i.op = 1 then decide (k < 4) else if fmt i.op = 2 ∨ fmt i.op = 3 then true else if fmt i.op = 5 ∨ fmt i.op = 6 then decide (turn (encW i) k % 262144 < 12) else false := by
  have t1 := turn_high (w := encW i) hk
  have t2 := turn_mod (w := encW i) hk
  rw [show (2 ^ 18 : Nat) = 262144 from rfl] at t1 t2
  rw [dec_same h t1]
  have hbit : (turn (encW i % 262144) k).testBit k = !(encW i % 262144).testBit k := by rw [turn_bit, if_pos rfl]
  have hl := enc_low h
  have hb := vld_bounds h
  obtain ⟨h0, h1, _, _, h4⟩ := vld_parts h
  by_cases hf : fmt i.op = 1
  · rw [if_pos hf, if_pos hf, t2]
    have z : i.imm = 0 := by rw [hf] at h1; simpa [numOk, hasF, ptl] using h1
    rw [z, wd_zero] at hl
    have l16 : encW i % 262144 < 2 ^ 4 := by rw [hl]; omega
    by_cases h4k : k < 4
    · have := turn_lt l16 h4k
      rw [decide_eq_true h4k, decide_eq_true (show _ < 16 from this)]
    · have hz : (encW i % 262144).testBit k = false := bit_big l16 (by omega)
      rw [hz] at hbit
      have g := ge_of_bit hbit
      have : 2 ^ 4 ≤ 2 ^ k := Nat.pow_le_pow_right (by decide) (by omega)
      rw [decide_eq_false h4k, decide_eq_false (by omega)]
  · rw [if_neg hf, if_neg hf]
    by_cases h23 : fmt i.op = 2 ∨ fmt i.op = 3
    · rw [if_pos h23, if_pos h23]
    · rw [if_neg h23, if_neg h23]
      by_cases h56 : fmt i.op = 5 ∨ fmt i.op = 6
      · rw [if_pos h56, if_pos h56]
      · rw [if_neg h56, if_neg h56, t2]
        have z : encW i % 262144 = 0 := by
          rcases fmt_cases i.op with e | e | e | e | e | e | e | e
          · exact absurd e h0
          · exact absurd e hf
          · exact absurd (Or.inl e) h23
          · exact absurd (Or.inr e) h23
          · rw [e] at h1 h4
            have a1 : i.imm = 0 := by simpa [numOk, hasF, ptl] using h1
            have a2 := rg_no h4
            rw [hl, a1, a2, wd_zero]; rfl
          · exact absurd (Or.inl e) h56
          · exact absurd (Or.inr e) h56
          · rw [e] at h1 h4
            have a1 : i.imm = 0 := by simpa [numOk, hasF, ptl] using h1
            have a2 := rg_no h4
            rw [hl, a1, a2, wd_zero]; rfl
        rw [z] at hbit ⊢
        have g := ge_of_bit (x := turn 0 k) (by rw [hbit]; simp)
        have := Nat.two_pow_pos k
        rw [decide_eq_false (by omega)]
end Go.Proofs.YtpajnomngjllpaaDoor.Isa
