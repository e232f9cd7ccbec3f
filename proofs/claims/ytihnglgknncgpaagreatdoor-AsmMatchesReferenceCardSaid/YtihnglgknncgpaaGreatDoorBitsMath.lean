/- Plain facts on bit fields of natural numbers: a field is read, put, sign-extended; each is told by its bits. It speaks of whole numbers alone, under bounds on offset and width. -/
import Derived.Laws.Entries
import Derived.Laws.BitsLemmas
import Derived.RowKit
namespace Go.Proofs.YtihnglgknncgpaaGreatDoor.Bm
open Go Go.RowKit

/-- The field of n bits at p. -/
def fld (w p n : Nat) : Nat := w / 2 ^ p % 2 ^ n
/-- w with the field of n bits at p replaced by v's low bits. -/
def ins (w p n v : Nat) : Nat := 2 ^ p * (2 ^ n * (w / 2 ^ (p + n)) + v % 2 ^ n) + w % 2 ^ p
/-- The low n bits, read with a sign. -/
def sgn (v n : Nat) : Int := if v % 2 ^ n < 2 ^ (n - 1) then ((v % 2 ^ n : Nat) : Int) else ((v % 2 ^ n : Nat) : Int) - ((2 ^ n : Nat) : Int)
/-- A number fits in n bits. -/
def fits (x : Int) (n : Nat) : Bool := decide (-((2 ^ (n - 1) : Nat) : Int) ≤ x) && decide (x < ((2 ^ (n - 1) : Nat) : Int))

theorem fld_bit (w p n i : Nat) : (fld w p n).testBit i = (decide (i < n) && w.testBit (p + i)) := by
  unfold fld
  rw [Nat.testBit_mod_two_pow, Nat.testBit_div_two_pow, Nat.add_comm]

theorem ins_bit (w p n v i : Nat) : (ins w p n v).testBit i = if i < p then w.testBit i else if i < p + n then v.testBit (i - p) else w.testBit i := by
  unfold ins
  rw [Nat.testBit_two_pow_mul_add _ (Nat.mod_lt _ (Nat.two_pow_pos p))]
  by_cases h : i < p
  · rw [if_pos h, if_pos h, Nat.testBit_mod_two_pow]; simp [h]
  · rw [if_neg h, if_neg h, Nat.testBit_two_pow_mul_add _ (Nat.mod_lt _ (Nat.two_pow_pos n))]
    by_cases h2 : i < p + n
    · rw [if_pos (by omega), if_pos h2, Nat.testBit_mod_two_pow]; simp; omega
    · rw [if_neg (by omega), if_neg h2, Nat.testBit_div_two_pow]; congr 1; omega

theorem fld_lt (w p n : Nat) : fld w p n < 2 ^ n := Nat.mod_lt _ (Nat.two_pow_pos n)
theorem bit_big {w b : Nat} (h : w < 2 ^ b) {i : Nat} (hi : b ≤ i) : w.testBit i = false :=
  Nat.testBit_lt_two_pow (Nat.lt_of_lt_of_le h (Nat.pow_le_pow_right (by decide) hi))
theorem lt_of_bits {w b : Nat} (h : ∀ i, b ≤ i → w.testBit i = false) : w < 2 ^ b := Nat.lt_pow_two_of_testBit w h
theorem ins_lt {w p n v b : Nat} (hw : w < 2 ^ b) (hp : p + n ≤ b) : ins w p n v < 2 ^ b :=
  lt_of_bits fun i hi => by rw [ins_bit, if_neg (by omega), if_neg (by omega)]; exact bit_big hw hi
theorem fld_lt32 {w p n : Nat} (hn : n ≤ 32) : fld w p n < 2 ^ 32 := Nat.lt_of_lt_of_le (fld_lt w p n) (Nat.pow_le_pow_right (by decide) hn)

/-- Two numbers of the same bits below b, both small, are one. -/
theorem eq_of_bits {x y b : Nat} (hx : x < 2 ^ b) (hy : y < 2 ^ b) (h : ∀ i, i < b → x.testBit i = y.testBit i) : x = y :=
  Nat.eq_of_testBit_eq fun i => by
    by_cases hi : i < b
    · exact h i hi
    · rw [bit_big hx (by omega), bit_big hy (by omega)]

/-! ### Go's operations -/
theorem wrap_u64 (n : Int) : IntKind.u64.wrap n = n % 18446744073709551616 := by simp [IntKind.wrap, IntKind.bits, IntKind.signed]
theorem u64_nat (n : Nat) (h : n < 18446744073709551616) : IntKind.u64.wrap (n : Int) = (n : Int) := by rw [wrap_u64]; omega
theorem u64_int (n : Int) (h0 : 0 ≤ n) (h : n < 18446744073709551616) : IntKind.u64.wrap n = n := by rw [wrap_u64]; omega
theorem w64_int (n : Int) (h0 : -9223372036854775808 ≤ n) (h : n < 9223372036854775808) : wrap64 n = n := by unfold wrap64; omega
theorem w32_int (n : Int) (h0 : -2147483648 ≤ n) (h : n < 2147483648) : wrap32 n = n := by unfold wrap32; omega

theorem and_nat64 (a b : Nat) (ha : a < 2 ^ 64) (hb : b < 2 ^ 64) : Go.bits .and .u64 (a : Int) (b : Int) = ((a &&& b : Nat) : Int) :=
  (bits_nat .u64 64 (by decide) (fun n h0 h => by rw [wrap_u64]; omega) a b ha hb).1
theorem or_nat32 (a b : Nat) (ha : a < 2 ^ 32) (hb : b < 2 ^ 32) : Go.bits .or .u32 (a : Int) (b : Int) = ((a ||| b : Nat) : Int) :=
  (bits_nat .u32 32 (by decide) (fun n h0 h => by rw [IntKind.wrap_u32]; omega) a b ha hb).2
/-- What is left of a where b has no bit. -/
def but (a b : Nat) : Nat := (BitVec.ofNat 32 a &&& ~~~ BitVec.ofNat 32 b).toNat
theorem but_lt (a b : Nat) : but a b < 2 ^ 32 := BitVec.isLt _
theorem but_bit (a b i : Nat) (hi : i < 32) : (but a b).testBit i = (a.testBit i && !b.testBit i) := by
  unfold but
  rw [BitVec.testBit_toNat, BitVec.getLsbD_and, BitVec.getLsbD_not, BitVec.getLsbD_ofNat, BitVec.getLsbD_ofNat]
  simp only [hi, decide_true, Bool.true_and]
theorem andNot_nat (a b : Nat) : Go.bits .andNot .u32 (a : Int) (b : Int) = ((but a b : Nat) : Int) := by
  have h := but_lt a b
  show IntKind.u32.wrap (((BitVec.ofInt 32 (a : Int) &&& ~~~ BitVec.ofInt 32 (b : Int)).toNat : Nat) : Int) = _
  rw [IntKind.wrap_u32, BitVec.ofInt_natCast, BitVec.ofInt_natCast]
  show ((but a b : Nat) : Int) % _ = _
  omega

theorem mask_bit (n i : Nat) : (2 ^ n - 1).testBit i = decide (i < n) := Nat.testBit_two_pow_sub_one n i
theorem and_mask (w n : Nat) : w &&& (2 ^ n - 1) = w % 2 ^ n := Nat.and_two_pow_sub_one_eq_mod w n

/-- 'Insert' as it is computed is 'ins'. -/
theorem ins_eq {w p n v : Nat} (hw : w < 2 ^ 32) (hp : p + n ≤ 32) : (but w ((2 ^ n - 1) * 2 ^ p) ||| v % 2 ^ n * 2 ^ p) = ins w p n v := by
  have hv : v % 2 ^ n * 2 ^ p < 2 ^ 32 := by
    refine Nat.lt_of_lt_of_le (Nat.mul_lt_mul_of_pos_right (Nat.mod_lt v (Nat.two_pow_pos n)) (Nat.two_pow_pos p)) ?_
    rw [← Nat.pow_add]; exact Nat.pow_le_pow_right (by decide) (by omega)
  refine eq_of_bits (Nat.or_lt_two_pow (but_lt _ _) hv) (ins_lt hw hp) fun i hi => ?_
  rw [Nat.testBit_or, but_bit _ _ _ hi, ins_bit, Nat.mul_comm (2 ^ n - 1), Nat.mul_comm (v % 2 ^ n), Nat.testBit_two_pow_mul, Nat.testBit_two_pow_mul, mask_bit, Nat.testBit_mod_two_pow]
  by_cases h : i < p
  · have h1 : ¬ p ≤ i := by omega
    simp [h, h1]
  · have h1 : p ≤ i := by omega
    by_cases h2 : i < p + n
    · have h3 : i - p < n := by omega
      simp [h, h1, h2, h3]
    · have h3 : ¬ i - p < n := by omega
      simp [h, h1, h2, h3]

theorem fld_zero (v n : Nat) : fld v 0 n = v % 2 ^ n := by unfold fld; simp
theorem mod_bit (v n i : Nat) : (v % 2 ^ n).testBit i = (decide (i < n) && v.testBit i) := Nat.testBit_mod_two_pow v n i

/-! ### Signs -/
theorem two_pow_pred {n : Nat} (hn : 1 ≤ n) : 2 ^ n = 2 * 2 ^ (n - 1) := by
  obtain ⟨m, rfl⟩ : ∃ m, n = m + 1 := ⟨n - 1, by omega⟩
  rw [Nat.pow_succ, Nat.mul_comm]; rfl
theorem sgn_fits {v n : Nat} (hn : 1 ≤ n) : -((2 ^ (n - 1) : Nat) : Int) ≤ sgn v n ∧ sgn v n < ((2 ^ (n - 1) : Nat) : Int) := by
  have h := two_pow_pred hn
  have hl := Nat.mod_lt v (Nat.two_pow_pos n)
  unfold sgn
  generalize v % 2 ^ n = x at *
  generalize 2 ^ n = m at *
  generalize 2 ^ (n - 1) = q at *
  split <;> omega
theorem fits_iff {x : Int} {n : Nat} : fits x n = true ↔ -((2 ^ (n - 1) : Nat) : Int) ≤ x ∧ x < ((2 ^ (n - 1) : Nat) : Int) := by simp [fits]
/-- The word of a signed number. -/
def wd (x : Int) : Nat := (x % 4294967296).toNat
theorem wd_lt (x : Int) : wd x < 2 ^ 32 := by unfold wd; omega
theorem wd_cast (x : Int) : ((wd x : Nat) : Int) = x % 4294967296 := by unfold wd; omega
theorem pow_dvd32 {n : Nat} (hn : n ≤ 32) : ∃ c, 4294967296 = 2 ^ n * c := ⟨2 ^ (32 - n), by rw [← Nat.pow_add]; rw [show n + (32 - n) = 32 by omega]⟩
theorem wd_mod {x : Int} {n : Nat} (hn : n ≤ 32) : ((wd x % 2 ^ n : Nat) : Int) = x % ((2 ^ n : Nat) : Int) := by
  obtain ⟨c, hc⟩ := pow_dvd32 hn
  rw [Int.natCast_emod, wd_cast]
  have hd : ((2 ^ n : Nat) : Int) ∣ 4294967296 := ⟨(c : Int), by rw [← Int.natCast_mul, ← hc]; rfl⟩
  exact Int.emod_emod_of_dvd x hd
theorem sgn_wd {x : Int} {n : Nat} (h1 : 1 ≤ n) (hn : n ≤ 32) : sgn (wd x) n = x ↔ fits x n = true := by
  have h := two_pow_pred h1
  have hm := wd_mod (x := x) hn
  have hl := Nat.mod_lt (wd x) (Nat.two_pow_pos n)
  rw [fits_iff]
  constructor
  · intro e; have := sgn_fits (v := wd x) h1; rw [e] at this; exact this
  · rintro ⟨a, b⟩
    unfold sgn
    generalize wd x % 2 ^ n = y at *
    generalize 2 ^ n = m at *
    generalize 2 ^ (n - 1) = q at *
    by_cases hx : 0 ≤ x
    · rw [Int.emod_eq_of_lt hx (by omega)] at hm
      rw [if_pos (by omega)]; exact hm
    · have : x % (m : Int) = x + m := by
        rw [← Int.add_emod_right, Int.emod_eq_of_lt (by omega) (by omega)]
      rw [this] at hm
      rw [if_neg (by omega)]; omega
theorem sgn_mod {v n : Nat} : sgn (v % 2 ^ n) n = sgn v n := by unfold sgn; rw [Nat.mod_mod]
/-- The low bits of what was sign-extended. -/
theorem wd_sgn {v n : Nat} (hn : n ≤ 32) : wd (sgn v n) % 2 ^ n = v % 2 ^ n := by
  have hm := wd_mod (x := sgn v n) hn
  have hl := Nat.mod_lt v (Nat.two_pow_pos n)
  unfold sgn at hm ⊢
  generalize hv : v % 2 ^ n = y at *
  split at hm
  · rename_i hlt; rw [if_pos hlt]; rw [Int.emod_eq_of_lt (by omega) (by omega)] at hm; omega
  · rename_i hlt; rw [if_neg hlt]; rw [Int.sub_emod_right, Int.emod_eq_of_lt (by omega) (by omega)] at hm; omega
/-- 'SignExtend' as it is computed. -/
theorem sgn_eq {v n : Nat} (h1 : 1 ≤ n) (hn : n ≤ 32) : wrap32 (((v : Int) * 2 ^ (32 - n)) % 4294967296) / 2 ^ (32 - n) = sgn v n := by
  obtain ⟨m, hm⟩ : ∃ m, m = 32 - n := ⟨_, rfl⟩
  rw [← hm]
  have hp := Nat.two_pow_pos m
  have hpow : (4294967296 : Nat) = 2 ^ n * 2 ^ m := by rw [← Nat.pow_add, show n + m = 32 by omega]
  have e1 : ((v : Int) * 2 ^ m) % 4294967296 = ((v % 2 ^ n * 2 ^ m : Nat) : Int) := by
    rw [← Nat.mul_mod_mul_right, ← hpow]; simp
  rw [e1]
  have hl := Nat.mod_lt v (Nat.two_pow_pos n)
  have h := two_pow_pred h1
  have hq : (2147483648 : Nat) = 2 ^ (n - 1) * 2 ^ m := by rw [← Nat.pow_add, show n - 1 + m = 31 by omega]
  unfold sgn
  generalize v % 2 ^ n = x at *
  have c2 : ((2 : Int) ^ m) = ((2 ^ m : Nat) : Int) := by simp
  rw [c2]
  by_cases hx : x < 2 ^ (n - 1)
  · rw [if_pos hx]
    have : x * 2 ^ m < 2147483648 := by rw [hq]; exact Nat.mul_lt_mul_of_pos_right hx hp
    rw [w32_int _ (by omega) (by omega)]
    rw [← Int.natCast_ediv, Nat.mul_div_cancel _ hp]
  · rw [if_neg hx]
    have g1 : 2147483648 ≤ x * 2 ^ m := by rw [hq]; exact Nat.mul_le_mul_right _ (by omega)
    have g2 : x * 2 ^ m < 4294967296 := by rw [hpow]; exact Nat.mul_lt_mul_of_pos_right hl hp
    have : wrap32 ((x * 2 ^ m : Nat) : Int) = ((x : Int) - ((2 ^ n : Nat) : Int)) * ((2 ^ m : Nat) : Int) := by
      rw [Int.sub_mul, ← Int.natCast_mul, ← Int.natCast_mul, ← hpow]; unfold wrap32; omega
    rw [this, Int.mul_ediv_cancel _ (by omega)]
theorem sgn_neg {v n : Nat} (h1 : 1 ≤ n) : sgn v n < 0 ↔ v.testBit (n - 1) = true := by
  have h := two_pow_pred h1
  have hl := Nat.mod_lt v (Nat.two_pow_pos n)
  have hb : (v % 2 ^ n).testBit (n - 1) = v.testBit (n - 1) := by rw [mod_bit]; simp; omega
  rw [← hb]
  unfold sgn
  generalize v % 2 ^ n = x at *
  by_cases hx : x < 2 ^ (n - 1)
  · rw [if_pos hx, Nat.testBit_lt_two_pow hx]; simp
  · rw [if_neg hx]
    have : x.testBit (n - 1) = true := by
      rw [Nat.testBit_eq_decide_div_mod_eq]
      have : x / 2 ^ (n - 1) = 1 := by
        refine Nat.div_eq_of_lt_le (by omega) (by omega)
      rw [this]; rfl
    simp only [this, iff_true]; omega
theorem fits_up {x : Int} {n : Nat} (h1 : 1 ≤ n) (h : fits x n = true) : fits x (n + 1) = true := by
  rw [fits_iff] at *
  have h := two_pow_pred h1
  rw [show n + 1 - 1 = n by omega]
  omega
end Go.Proofs.YtihnglgknncgpaaGreatDoor.Bm
