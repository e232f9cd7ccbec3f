/- The law IsaTwentyFiveOpcodes, walked. -/
import Derived.Test.YtpajnomngjllpaaDoorIsaP
import Derived.Outline
namespace Go.Proofs.YtpajnomngjllpaaDoor.Isa
open Go Go.RowKit Go.Proofs.YtpajnomngjllpaaDoor.PIsaUnusedBitsMustBeZero Go.Proofs.YtpajnomngjllpaaDoorW.PrintWords Go.Proofs.YtpajnomngjllpaaDoorW.PrintLast Go.Proofs.YtpajnomngjllpaaDoorW.PrintMore Go.Proofs.YtpajnomngjllpaaDoor.Bm
set_option linter.unusedVariables false
set_option linter.unusedSimpArgs false
theorem ok_alone : ∀ j : Nat, j < 64 → decOk (j * 67108864) = !(fmt (j : Int) == 0) := by decide +kernel
theorem ok_some {j r : Nat} (hj : j < 64) (hr : r < 67108864) (h : decOk (j * 67108864 + r) = true) : fmt (j : Int) ≠ 0 := by
  have hv : vld (decI (j * 67108864 + r)) = true := by unfold decOk at h; simp at h; exact h.1
  have h0 := (vld_parts hv).1
  have e : (decI (j * 67108864 + r)).op = (j : Int) := by
    unfold decI
    rw [show (j * 67108864 + r) / 67108864 = j by omega]
    split <;> rfl
  rw [e] at h0
  exact h0
/-- How many of the first opcodes have a format; how many are privileged. -/
def cf : Nat → Nat
  | 0 => 0
  | j + 1 => cf j + if fmt (j : Int) = 0 then 0 else 1
def cp : Nat → Nat
  | 0 => 0
  | j + 1 => cp j + if privB (j : Int) = true then 1 else 0
theorem cf_le : ∀ j, cf j ≤ j
  | 0 => Nat.le_refl _
  | j + 1 => by have := cf_le j; unfold cf; split <;> omega
theorem cp_le : ∀ j, cp j ≤ j
  | 0 => Nat.le_refl _
  | j + 1 => by have := cp_le j; unfold cp; split <;> omega
theorem decode_arg (P : Int) (n : Nat) (hP : P = (n : Int)) (hn : n < 2 ^ 32) (k : In) (hv : decR n = k) (b : Bool) (hb : decOk n = b) (W : World) (hT : Tabs W) :
    Calls Tryd.prog 11 #[.int .u32 P] W fun e w' => e = .returned (.tuple #[k.v, .bool b]) ∧ Below W.heap.size W w' := by
  subst hP hv; exact decode_at n _ b W hT hn rfl hb
theorem lim1 {j : Nat} (hj : j < 64) : j * 67108864 < 2 ^ 32 := by omega
theorem lim2 {j : Nat} (r : Nat) (hj : j < 64) : j * 67108864 + r % 67108864 < 2 ^ 32 := by omega
theorem rest_join (j r : Nat) (hj : j < 64) (hr : r < 2 ^ 32) : Go.bits .or .u32 ((j : Int) * 67108864) ((r : Int) % 67108864) = ((j * 67108864 + r % 67108864 : Nat) : Int) := by
  have e1 : ((j : Int) * 67108864) = ((j * 67108864 : Nat) : Int) := by simp
  have e2 : ((r : Int) % 67108864) = ((r % 67108864 : Nat) : Int) := by simp
  have h := (Nat.two_pow_add_eq_or_of_lt (i := 26) (b := r % 67108864) (Nat.mod_lt _ (by decide)) j).symm
  rw [show (2 : Nat) ^ 26 = 67108864 from rfl, Nat.mul_comm] at h
  rw [e1, e2, or_nat32 _ _ (by omega) (by omega), h]
set_option maxRecDepth 100000 in
set_option maxHeartbeats 4000000 in
theorem law4 (r : Nat) (hr : r < 2 ^ 32) (W : World) (hT : Tabs W) :
    Calls Tryd.prog 6 #[.int .u32 (r : Int)] W fun e w' => e = .returned (.bool true) ∧ Below W.heap.size W w' := by
  have HT := Lib.hid hT
  clear hT
  go_enter Tryd.func6, Tryd.ntmps6
  go_wp2_with fail
  refine (awake_any _ HT.out).mono ?_
  rintro e w1 ⟨rfl, hb⟩
  have B1 : Hid (Below W.heap.size W w1) := Lib.hid hb
  clear hb
  go_wp2_with fail
  go_loopw [3, 4, 5] (fun s3 s4 s5 wr => ∃ j : Nat, j ≤ 64 ∧ s5 = .int .i64 j ∧ s3 = .int .i64 (cf j) ∧ s4 = .int .i64 (cp j) ∧ Below W.heap.size W wr) (fun _ _ s5 _ => 64 - (intOf s5).toNat)
  case atStart => exact ⟨0, by omega, rfl, rfl, rfl, B1.out⟩
  case round =>
    obtain ⟨j, hj, rfl, rfl, rfl, hbr⟩ := hrel
    have BR := Lib.hid hbr
    clear hbr
    by_cases hlt : j < 64
    · have lf := cf_le j
      have lp := cp_le j
      obtain ⟨k1, hv1⟩ : ∃ k, decR (j * 67108864) = k := ⟨_, rfl⟩
      obtain ⟨k2, hv2⟩ : ∃ k, decR (j * 67108864 + r % 67108864) = k := ⟨_, rfl⟩
      obtain ⟨a, ha⟩ : ∃ a, decOk (j * 67108864 + r % 67108864) = a := ⟨_, rfl⟩
      obtain ⟨f, hf⟩ : ∃ f, fmt (j : Int) = f := ⟨_, rfl⟩
      obtain ⟨p, hp⟩ : ∃ p, privB (j : Int) = p := ⟨_, rfl⟩
      have hcp : cp (j + 1) = cp j + if p = true then 1 else 0 := by rw [← hp]; rfl
      have hcf : cf (j + 1) = cf j + if f = 0 then 0 else 1 := by rw [← hf]; rfl
      have hok := ok_alone j hlt
      rw [hf] at hok
      have haf : f = 0 → a = false := fun h => by
        cases a
        · rfl
        · exact absurd (hf.trans h) (ok_some hlt (Nat.mod_lt _ (by omega)) ha)
      have f0 : 0 ≤ f := by rw [← hf]; have := fmt_cases (j : Int); omega
      have e2 : Go.bits .or .u32 ((j : Int) * 67108864) ((r : Int) % 67108864) = ((j * 67108864 + r % 67108864 : Nat) : Int) := rest_join j r hlt hr
      have l1 := lim1 hlt
      have l2 := lim2 r hlt
      have D1 := Lib.hid (fun b hb => decode_arg ((j : Int) * 67108864) _ (by simp) l1 k1 hv1 b hb)
      have D2 := Lib.hid (fun P hP => decode_arg P _ hP l2 k2 hv2 a ha)
      have F := Lib.hid (fun W hT => format_at (j : Int) f W hT hf)
      have P := Lib.hid (fun W => priv_at (j : Int) p W hp)
      have z : W.heap.size ≤ wr.heap.size := BR.out.size
      clear ha hv1 hv2 hf hp
      obtain ⟨i0, i1, i2, i3, i4⟩ := k1
      obtain ⟨j0, j1, j2, j3, j4⟩ := k2
      simp only [In.v] at D1 D2
      by_cases hf0 : f = 0
      · obtain rfl := haf hf0
        subst hf0
        rw [if_pos rfl] at hcf
        go_wp2_with fail
        refine (D1.out false (by rw [hok]; rfl) _ (HT.out.later BR.out)).mono ?_
        rintro e w2 ⟨rfl, hb⟩
        have B2 : Hid (Below W.heap.size W w2) := Lib.hid (BR.out.trans (hb.mono z))
        clear hb
        go_wp2_with fail
        refine (D2.out _ (by simp) _ (HT.out.later (B2.out.alloc B2.out.size _))).mono ?_
        rintro e w3 ⟨rfl, hb⟩
        have B3 : Hid (Below W.heap.size W w3) := Lib.hid ((B2.out.alloc B2.out.size _).trans (hb.mono (Nat.le_trans B2.out.size (by simp))))
        have z3 := B3.out.size
        clear hb
        go_wp2_with fail
        refine (F.out _ (HT.out.later (B3.out.alloc z3 _))).mono ?_
        rintro e w4 ⟨rfl, rfl⟩
        go_wp2_with fail
        refine (P.out _).mono ?_
        rintro e w5 ⟨rfl, n, rfl⟩
        cases p
        · rw [if_neg (by decide)] at hcp
          go_wp2
          go_roundw
          case rel => exact ⟨j + 1, by omega, by go_num, by rw [hcf]; go_num, by rw [hcp]; go_num, bdrew (B3.out.alloc z3 _) n⟩
          case measure => simp [intOf]; omega
        · rw [if_pos rfl] at hcp
          go_wp2
          go_roundw
          case rel => exact ⟨j + 1, by omega, by go_num, by rw [hcf]; go_num, by rw [hcp]; go_num, bdrew (B3.out.alloc z3 _) n⟩
          case measure => simp [intOf]; omega
      · rw [if_neg hf0] at hcf
        have hfp : (f > 0) = True := eq_true (by omega)
        have hfd : decide (f > 0) = true := decide_eq_true (by omega)
        have hfd2 : decide (0 < f) = true := decide_eq_true (by omega)
        cases a
        all_goals
          go_wp2_with fail
          refine (D1.out true (by rw [hok, beq_eq_false_iff_ne.2 hf0]; rfl) _ (HT.out.later BR.out)).mono ?_
          rintro e w2 ⟨rfl, hb⟩
          have B2 : Hid (Below W.heap.size W w2) := Lib.hid (BR.out.trans (hb.mono z))
          clear hb
          go_wp2_with fail
          refine (D2.out _ (by simp) _ (HT.out.later (B2.out.alloc B2.out.size _))).mono ?_
          rintro e w3 ⟨rfl, hb⟩
          have B3 : Hid (Below W.heap.size W w3) := Lib.hid ((B2.out.alloc B2.out.size _).trans (hb.mono (Nat.le_trans B2.out.size (by simp))))
          have z3 := B3.out.size
          clear hb
          go_wp2_with fail
          refine (F.out _ (HT.out.later (B3.out.alloc z3 _))).mono ?_
          rintro e w4 ⟨rfl, rfl⟩
          go_wp2_with fail
          refine (P.out _).mono ?_
          rintro e w5 ⟨rfl, n, rfl⟩
          cases p
          · rw [if_neg (by decide)] at hcp
            go_wp2
            go_roundw
            case rel => exact ⟨j + 1, by omega, by go_num, by rw [hcf]; go_num, by rw [hcp]; go_num, bdrew (B3.out.alloc z3 _) n⟩
            case measure => simp [intOf]; omega
          · rw [if_pos rfl] at hcp
            go_wp2
            go_roundw
            case rel => exact ⟨j + 1, by omega, by go_num, by rw [hcf]; go_num, by rw [hcp]; go_num, bdrew (B3.out.alloc z3 _) n⟩
            case measure => simp [intOf]; omega
    · obtain rfl : j = 64 := by omega
      have e1 : cf 64 = 25 := by decide
      have e2 : cp 64 = 5 := by decide
      rw [e1, e2]
      go_wp2
      go_ret
      exact ⟨by simp, BR.out⟩
end Go.Proofs.YtpajnomngjllpaaDoor.Isa
