/- A value fits in n bits exactly if sign-extending its low n bits gives it back. For every word, value and width. -/
import Derived.Test.YtgabcelholefmaaPBitsSignRoundTripx1
import Derived.Test.YtgabcelholefmaaBitsMath
namespace Go.Proofs.Ytgabcelholefmaa.Pure
open Go.RowKit Go.Proofs.Ytgabcelholefmaa.PBitsSignRoundTrip Go.Proofs.YtgabcelholefmaaW.PrintWords Go.Proofs.YtgabcelholefmaaW.PrintLast Go.Proofs.Ytgabcelholefmaa.Bm
theorem wf_u32 {x : Int} (h : (Lit.int .u32 x).wf = true) : ∃ n : Nat, n < 2 ^ 32 ∧ x = (n : Int) := by
  simp [Lit.wf, IntKind.min, IntKind.max, IntKind.bits, IntKind.signed] at h
  exact ⟨x.toNat, by omega, by omega⟩
theorem wf_u8 {x : Int} (h : (Lit.int .u8 x).wf = true) : ∃ n : Nat, n < 256 ∧ x = (n : Int) := by
  simp [Lit.wf, IntKind.min, IntKind.max, IntKind.bits, IntKind.signed] at h
  exact ⟨x.toNat, by omega, by omega⟩
theorem wf_i32 {x : Int} (h : (Lit.int .i32 x).wf = true) : -2147483648 ≤ x ∧ x < 2147483648 := by
  simp [Lit.wf, IntKind.min, IntKind.max, IntKind.bits, IntKind.signed] at h
  omega
/-! ### What the printed functions of package bits come to, on natural numbers -/
theorem i_min (n b : Nat) (h : n ≤ b) : min ((n : Int).toNat) b = n := by omega
theorem i_low (w n : Nat) (hw : w < 2 ^ 64) (hn : n ≤ 32) : bits_low_uint64.f (w : Int) (n : Int) = some ((w % 2 ^ n : Nat) : Int) := by
  have hp : 2 ^ n ≤ 2 ^ 32 := Nat.pow_le_pow_right (by decide) hn
  have hq : 0 < 2 ^ n := Nat.two_pow_pos n
  unfold bits_low_uint64.f
  rw [u64_nat n (by omega), if_pos (Int.natCast_nonneg n)]
  have e : IntKind.u64.wrap (shl .u64 1 (n : Int) - 1) = ((2 ^ n - 1 : Nat) : Int) := by
    unfold shl
    rw [show IntKind.u64.bits = 64 from rfl, i_min n 64 (by omega), Int.one_mul]
    have c : ((2 : Int) ^ n) = ((2 ^ n : Nat) : Int) := by simp
    rw [c, u64_nat _ (by omega), u64_int _ (by omega) (by omega)]
    omega
  rw [e, and_nat64 _ _ hw (by omega), and_mask]
theorem i_extract (w p n : Nat) (hw : w < 2 ^ 32) (hp : p ≤ 32) (hn : n ≤ 32) : bits_Extract.f (w : Int) (p : Int) (n : Int) = some ((fld w p n : Nat) : Int) := by
  unfold bits_Extract.f
  rw [u64_nat p (by omega), if_pos (Int.natCast_nonneg p), u64_nat w (by omega)]
  have e : shr .u64 (w : Int) (p : Int) = ((w / 2 ^ p : Nat) : Int) := by
    unfold shr
    rw [show IntKind.u64.bits = 64 from rfl, i_min p 64 (by omega)]
    simp
  rw [e, i_low _ _ (Nat.lt_of_le_of_lt (Nat.div_le_self _ _) (by omega)) hn, Option.bind_some]
  have := fld_lt32 (w := w) (p := p) hn
  unfold fld at this ⊢
  congr 1
  omega
theorem i_insert (w p n v : Nat) (hw : w < 2 ^ 32) (hv : v < 2 ^ 32) (hp : p + n ≤ 32) : bits_Insert.f (w : Int) (p : Int) (n : Int) (v : Int) = some ((ins w p n v : Nat) : Int) := by
  have hpn : 2 ^ n ≤ 2 ^ 32 := Nat.pow_le_pow_right (by decide) (by omega)
  have hq : 0 < 2 ^ n := Nat.two_pow_pos n
  have hvn : v % 2 ^ n < 2 ^ n := Nat.mod_lt _ hq
  have hall : 18446744073709551615 % 2 ^ n = 2 ^ n - 1 := by
    rw [show (18446744073709551615 : Nat) = 2 ^ 64 - 1 from rfl]
    refine Nat.eq_of_testBit_eq fun i => ?_
    rw [mod_bit, mask_bit, mask_bit]
    by_cases h : i < n
    · have : i < 64 := by omega
      simp [h, this]
    · simp [h]
  unfold bits_Insert.f
  have h0 : bits_low_uint64.f 18446744073709551615 (n : Int) = some ((2 ^ n - 1 : Nat) : Int) := by
    have := i_low 18446744073709551615 n (by decide) (by omega)
    rw [hall] at this; exact this
  rw [h0, Option.bind_some, u64_nat p (by omega), if_pos (Int.natCast_nonneg p), u64_nat v (by omega), i_low v n (by omega) (by omega), Option.bind_some]
  have small : ∀ x : Nat, x < 2 ^ n → shl .u32 (((x : Nat) : Int) % 4294967296) (p : Int) = ((x * 2 ^ p : Nat) : Int) := fun x hx => by
    have hb : x * 2 ^ p < 2 ^ 32 := by
      refine Nat.lt_of_lt_of_le (Nat.mul_lt_mul_of_pos_right hx (Nat.two_pow_pos p)) ?_
      rw [← Nat.pow_add]; exact Nat.pow_le_pow_right (by decide) (by omega)
    unfold shl
    rw [show IntKind.u32.bits = 32 from rfl, i_min p 32 (by omega), IntKind.wrap_u32]
    rw [show ((x : Nat) : Int) % 4294967296 = (x : Int) by omega]
    have c : ((2 : Int) ^ p) = ((2 ^ p : Nat) : Int) := by simp
    rw [c, ← Int.natCast_mul]
    omega
  rw [small _ (by omega), small _ hvn, andNot_nat]
  have hvb : v % 2 ^ n * 2 ^ p < 2 ^ 32 := by
    refine Nat.lt_of_lt_of_le (Nat.mul_lt_mul_of_pos_right hvn (Nat.two_pow_pos p)) ?_
    rw [← Nat.pow_add]; exact Nat.pow_le_pow_right (by decide) (by omega)
  rw [or_nat32 _ _ (but_lt _ _) hvb, ins_eq hw hp]
theorem i_sign (v n : Nat) (h1 : 1 ≤ n) (hn : n ≤ 32) : bits_SignExtend.f (v : Int) (n : Int) = some (sgn v n) := by
  unfold bits_SignExtend.f
  have e : IntKind.u64.wrap (wrap64 (32 - (n : Int))) = ((32 - n : Nat) : Int) := by
    rw [w64_int _ (by omega) (by omega), u64_int _ (by omega) (by omega)]; omega
  rw [e, if_pos (Int.natCast_nonneg _)]
  unfold shr shl
  rw [show IntKind.u32.bits = 32 from rfl, show IntKind.i32.bits = 32 from rfl, i_min _ 32 (by omega), IntKind.wrap_u32, sgn_eq h1 hn]
theorem i_fits (x : Int) (n : Nat) (h1 : 1 ≤ n) (hn : n ≤ 32) : bits_FitsSigned.f x (n : Int) = some (fits x n) := by
  unfold bits_FitsSigned.f
  rw [← wd_cast, i_sign _ _ h1 hn, Option.bind_some]
  congr 1
  rw [Bool.eq_iff_iff, beq_iff_eq, sgn_wd h1 hn]
theorem i_lowbits (x : Int) (n : Nat) (hn : n ≤ 32) : bits_LowBits.f x (n : Int) = some ((wd x % 2 ^ n : Nat) : Int) := by
  unfold bits_LowBits.f
  rw [← wd_cast]
  have := i_extract (wd x) 0 n (wd_lt x) (by omega) hn
  rw [fld_zero] at this
  rw [show ((0 : Nat) : Int) = 0 from rfl] at this
  rw [this, Option.bind_some]
theorem i_awake : gaolerlaw01_awake.f = some true := by decide +kernel
theorem i_width (a : Nat) (ha : a < 256) : wrap64 (1 + wrap64 (Int.tmod (a : Int) 32)) = ((1 + a % 32 : Nat) : Int) := by
  have e1 : Int.tmod (a : Int) 32 = ((a % 32 : Nat) : Int) := by rw [Int.tmod_eq_emod_of_nonneg (by omega)]; omega
  rw [e1, w64_int ((a % 32 : Nat) : Int) (by omega) (by omega), w64_int _ (by omega) (by omega)]; omega
theorem sgn_top {x : Int} (hx : -2147483648 ≤ x ∧ x < 2147483648) : fits x 32 = true := by
  rw [fits_iff]; exact ⟨by simpa using hx.1, by simpa using hx.2⟩
theorem BitsSignRoundTrip : gaolerlaw01_BitsSignRoundTrip.Pure := by
  intro a0 x a2 h0 h1 h2
  obtain ⟨v, hv, rfl⟩ := wf_u32 h0
  have hx := wf_i32 h1
  obtain ⟨a, ha, rfl⟩ := wf_u8 h2
  refine ⟨3, ?_⟩
  unfold gaolerlaw01_BitsSignRoundTrip.f
  rw [i_awake, Option.bind_some, if_pos rfl, i_width a ha]
  obtain ⟨n, hn⟩ : ∃ n, n = 1 + a % 32 := ⟨_, rfl⟩
  rw [← hn]
  have g1 : 1 ≤ n := by omega
  have g2 : n ≤ 32 := by omega
  have sf : fits (sgn v n) n = true := fits_iff.2 (sgn_fits g1)
  have z : ∀ x : Nat, x < 2 ^ 32 → bits_Extract.f (x : Int) 0 (n : Int) = some ((x % 2 ^ n : Nat) : Int) := fun x hx => by
    have := i_extract x 0 n hx (by omega) (by omega); rw [fld_zero] at this; exact this
  rw [i_sign v n g1 g2, Option.bind_some, i_fits _ n g1 g2, Option.bind_some, if_pos sf, i_lowbits _ n g2, Option.bind_some, z v hv, Option.bind_some, wd_sgn g2, if_pos rfl]
  rw [w64_int ((n : Int) - 1) (by omega) (by omega), show ((n : Int) - 1) = ((n - 1 : Nat) : Int) by omega]
  have e1 := i_extract v (n - 1) 1 hv (by omega) (by omega)
  rw [show ((1 : Nat) : Int) = 1 from rfl] at e1
  rw [e1, Option.bind_some]
  have hb : (decide (sgn v n < 0) != (((fld v (n - 1) 1 : Nat) : Int) == 1)) = false := by
    have hs := sgn_neg (v := v) g1
    unfold fld
    rw [Nat.pow_one, ← Nat.toNat_testBit]
    cases hc : v.testBit (n - 1) with
    | true => rw [decide_eq_true (hs.2 hc)]; rfl
    | false => rw [decide_eq_false (fun h => by have := hs.1 h; rw [hc] at this; cases this)]; rfl
  rw [hb]
  simp only [gaolerlaw01_BitsSignRoundTrip.j0]
  rw [if_neg (by simp), i_fits x n g1 g2, Option.bind_some, i_lowbits x n g2, Option.bind_some, i_sign _ n g1 g2, Option.bind_some]
  have hc : (fits x n != (sgn (wd x % 2 ^ n) n == x)) = false := by
    rw [sgn_mod]
    cases hf : fits x n with
    | true => rw [(sgn_wd g1 g2).2 hf]; simp
    | false =>
      have : ¬ sgn (wd x) n = x := fun h => by rw [(sgn_wd g1 g2).1 h] at hf; cases hf
      simp [this]
  rw [hc, if_neg (by simp)]
  have t := i_fits x 32 (by omega) (by omega)
  rw [show ((32 : Nat) : Int) = 32 from rfl] at t
  rw [t, Option.bind_some, sgn_top hx]
  simp only [gaolerlaw01_BitsSignRoundTrip.j1, Bool.not_true]
  rw [if_neg (by simp)]
  by_cases c : (n : Int) = 32
  · rw [if_pos c]
  · rw [if_neg c, i_fits x n g1 g2, Option.bind_some]
    cases hf : fits x n with
    | false => simp
    | true =>
      rw [if_pos rfl, w64_int _ (by omega) (by omega), show ((n : Int) + 1) = ((n + 1 : Nat) : Int) by omega, i_fits x (n + 1) (by omega) (by omega), Option.bind_some, fits_up g1 hf]
end Go.Proofs.Ytgabcelholefmaa.Pure
