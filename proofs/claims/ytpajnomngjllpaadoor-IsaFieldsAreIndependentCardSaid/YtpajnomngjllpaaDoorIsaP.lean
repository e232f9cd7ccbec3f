/- Decoding gives back what was encoded; two valid instructions of one word are one. For every valid instruction and every word. -/
import Derived.Test.YtpajnomngjllpaaDoorIsaW7
namespace Go.Proofs.YtpajnomngjllpaaDoor.Isa
open Go Go.RowKit Go.Proofs.YtpajnomngjllpaaDoor.PIsaUnusedBitsMustBeZero Go.Proofs.YtpajnomngjllpaaDoorW.PrintWords Go.Proofs.YtpajnomngjllpaaDoorW.PrintLast Go.Proofs.YtpajnomngjllpaaDoorW.PrintMore Go.Proofs.YtpajnomngjllpaaDoor.Bm
set_option linter.unusedVariables false
set_option linter.unusedSimpArgs false
theorem num_fits {f x : Int} (h : numOk f x = true) : fits x 18 = true := by
  unfold numOk at h
  by_cases h0 : x = 0
  · subst h0; exact fits_zero
  · rw [beq_eq_false_iff_ne.2 h0, Bool.false_or, Bool.or_eq_true] at h
    rcases h with h | h
    · exact (Bool.and_eq_true _ _ ▸ h).2
    · have := (Bool.and_eq_true _ _ ▸ h).2
      simp at this
      rw [fits_iff]
      omega
theorem dec_enc {i : In} (h : vld i = true) : decI (encW i) = i := by
  have hb := vld_bounds h
  have hl := lowrb_lt h
  obtain ⟨h0, h1, h2, h3, h4⟩ := vld_parts h
  have or := imm_or_rb h
  have hf := num_fits h1
  obtain ⟨op, rd, ra, rb, imm⟩ := i
  dsimp only at *
  obtain ⟨o, rfl⟩ := Int.eq_ofNat_of_zero_le (show 0 ≤ op by omega)
  obtain ⟨d, rfl⟩ := Int.eq_ofNat_of_zero_le (show 0 ≤ rd by omega)
  obtain ⟨a, rfl⟩ := Int.eq_ofNat_of_zero_le (show 0 ≤ ra by omega)
  obtain ⟨b, rfl⟩ := Int.eq_ofNat_of_zero_le (show 0 ≤ rb by omega)
  simp only [Int.toNat_natCast] at *
  have e1 : encW ⟨(o : Int), (d : Int), (a : Int), (b : Int), imm⟩ / 67108864 = o := by unfold encW; dsimp only; simp only [Int.toNat_natCast]; omega
  have e2 : encW ⟨(o : Int), (d : Int), (a : Int), (b : Int), imm⟩ / 4194304 % 16 = d := by unfold encW; dsimp only; simp only [Int.toNat_natCast]; omega
  have e3 : encW ⟨(o : Int), (d : Int), (a : Int), (b : Int), imm⟩ / 262144 % 16 = a := by unfold encW; dsimp only; simp only [Int.toNat_natCast]; omega
  have e4 : encW ⟨(o : Int), (d : Int), (a : Int), (b : Int), imm⟩ % 262144 = wd imm % 262144 + b := by unfold encW; dsimp only; simp only [Int.toNat_natCast]; omega
  unfold decI
  rw [e1, e2, e3]
  by_cases hf1 : fmt (o : Int) = 1
  · rw [if_pos hf1]
    have z : imm = 0 := by rw [hf1] at h1; simpa [numOk, hasF, ptl] using h1
    have e5 : encW ⟨(o : Int), (d : Int), (a : Int), (b : Int), imm⟩ % 16 = b := by
      rw [z, wd_zero] at e4
      rw [z]
      omega
    rw [e5, z]
  · rw [if_neg hf1]
    have z : (b : Int) = 0 := by
      rcases fmt_cases (o : Int) with e | e | e | e | e | e | e | e
      · exact absurd e h0
      · exact absurd e hf1
      all_goals (rw [e] at h4; exact rg_no h4)
    have e5 : sgn (encW ⟨(o : Int), (d : Int), (a : Int), (b : Int), imm⟩) 18 = imm := by
      rw [← sgn_mod, show (2 ^ 18 : Nat) = 262144 from rfl, e4, show b = 0 by omega, Nat.add_zero]
      have s := (sgn_wd (x := imm) (n := 18) (by omega) (by omega)).2 hf
      have m := sgn_mod (v := wd imm) (n := 18)
      rw [show (2 ^ 18 : Nat) = 262144 from rfl] at m
      rw [m]
      exact s
    rw [e5, z]
theorem dec_ok {i : In} (h : vld i = true) : decOk (encW i) = true := by unfold decOk; rw [dec_enc h, h]; simp
theorem dec_r {i : In} (h : vld i = true) : decR (encW i) = i := by unfold decR; rw [if_pos (dec_ok h), dec_enc h]
theorem enc_inj {i j : In} (hi : vld i = true) (hj : vld j = true) (h : encW i = encW j) : i = j := by rw [← dec_enc hi, ← dec_enc hj, h]
theorem ok_parts {w : Nat} (h : decOk w = true) : vld (decR w) = true ∧ encW (decR w) = w := by
  have e : decR w = decI w := by unfold decR; rw [if_pos h]
  rw [e]
  unfold decOk at h
  simpa using h
theorem no_part {w : Nat} (h : decOk w = false) : decR w = nilI := by unfold decR; rw [h]; rfl
/-- '==' of two instructions. -/
theorem eqA23 (d : Nat) (w : World) (i j : In) : (Op.equalIn (d + 2) 23 i.v j.v).run Tryd.prog w = .ok (decide (i = j)) w := by
  obtain ⟨x0, x1, x2, x3, x4⟩ := i
  obtain ⟨y0, y1, y2, y3, y4⟩ := j
  have e : decide ((⟨x0, x1, x2, x3, x4⟩ : In) = ⟨y0, y1, y2, y3, y4⟩) = (x0 == y0 && (x1 == y1 && (x2 == y2 && (x3 == y3 && x4 == y4)))) := by
    rw [Bool.eq_iff_iff]; simp
  rw [e]
  unfold In.v
  refine eqA_of Tryd.underlying23 (by kernel_rfl) ?_
  refine eqf_cons (by rfl) (by go_simp; rfl) (by go_simp; rfl) (by go_simp) ?_
  refine eqf_cons (by rfl) (by go_simp; rfl) (by go_simp; rfl) (by go_simp) ?_
  refine eqf_cons (by rfl) (by go_simp; rfl) (by go_simp; rfl) (by go_simp) ?_
  refine eqf_cons (by rfl) (by go_simp; rfl) (by go_simp; rfl) (by go_simp) ?_
  exact eqf_last (by rfl) (by go_simp; rfl) (by go_simp; rfl) (by go_simp)
theorem eqI_at (i j : In) (b : Bool) (h : decide (i = j) = b) : ∀ (d : Nat) (w : World), (Op.equalIn (d + 2) 23 i.v j.v).run Tryd.prog w = .ok b w := fun d w => by rw [eqA23, h]
end Go.Proofs.YtpajnomngjllpaaDoor.Isa
