/- What Insert puts Extract reads back; a second Insert overwrites the first; fields apart do not touch each other. For every word, value and valid field. -/
import Derived.Test.YtgabcelholefmaaPBitsInsertThenExtractx1
import Derived.Test.YtgabcelholefmaaBitsMath
namespace Go.Proofs.Ytgabcelholefmaa.Pure
open Go.RowKit Go.Proofs.Ytgabcelholefmaa.PBitsInsertThenExtract Go.Proofs.YtgabcelholefmaaW.PrintWords Go.Proofs.YtgabcelholefmaaW.PrintLast Go.Proofs.Ytgabcelholefmaa.Bm
theorem wf_u32 {x : Int} (h : (Lit.int .u32 x).wf = true) : ∃ n : Nat, n < 2 ^ 32 ∧ x = (n : Int) := by
  simp [Lit.wf, IntKind.min, IntKind.max, IntKind.bits, IntKind.signed] at h
  exact ⟨x.toNat, by omega, by omega⟩
theorem wf_u8 {x : Int} (h : (Lit.int .u8 x).wf = true) : ∃ n : Nat, n < 256 ∧ x = (n : Int) := by
  simp [Lit.wf, IntKind.min, IntKind.max, IntKind.bits, IntKind.signed] at h
  exact ⟨x.toNat, by omega, by omega⟩
theorem wf_i32 {x : Int} (h : (Lit.int .i32 x).wf = true) : -2147483648 ≤ x ∧ x < 2147483648 := by
  simp [Lit.wf, IntKind.min, IntKind.max, IntKind.bits, IntKind.signed] at h
  omega
/-! ### What the printed functions of package bits come to, on natural numbers -/
theorem i_min (n b : Nat) (h : n ≤ b) : min ((n : Int).toNat) b = n := by omega
theorem i_low (w n : Nat) (hw : w < 2 ^ 64) (hn : n ≤ 32) : bits_low_uint64.f (w : Int) (n : Int) = some ((w % 2 ^ n : Nat) : Int) := by
  have hp : 2 ^ n ≤ 2 ^ 32 := Nat.pow_le_pow_right (by decide) hn
  have hq : 0 < 2 ^ n := Nat.two_pow_pos n
  unfold bits_low_uint64.f
  rw [u64_nat n (by omega), if_pos (Int.natCast_nonneg n)]
  have e : IntKind.u64.wrap (shl .u64 1 (n : Int) - 1) = ((2 ^ n - 1 : Nat) : Int) := by
    unfold shl
    rw [show IntKind.u64.bits = 64 from rfl, i_min n 64 (by omega), Int.one_mul]
    have c : ((2 : Int) ^ n) = ((2 ^ n : Nat) : Int) := by simp
    rw [c, u64_nat _ (by omega), u64_int _ (by omega) (by omega)]
    omega
  rw [e, and_nat64 _ _ hw (by omega), and_mask]
theorem i_extract (w p n : Nat) (hw : w < 2 ^ 32) (hp : p ≤ 32) (hn : n ≤ 32) : bits_Extract.f (w : Int) (p : Int) (n : Int) = some ((fld w p n : Nat) : Int) := by
  unfold bits_Extract.f
  rw [u64_nat p (by omega), if_pos (Int.natCast_nonneg p), u64_nat w (by omega)]
  have e : shr .u64 (w : Int) (p : Int) = ((w / 2 ^ p : Nat) : Int) := by
    unfold shr
    rw [show IntKind.u64.bits = 64 from rfl, i_min p 64 (by omega)]
    simp
  rw [e, i_low _ _ (Nat.lt_of_le_of_lt (Nat.div_le_self _ _) (by omega)) hn, Option.bind_some]
  have := fld_lt32 (w := w) (p := p) hn
  unfold fld at this ⊢
  congr 1
  omega
theorem i_insert (w p n v : Nat) (hw : w < 2 ^ 32) (hv : v < 2 ^ 32) (hp : p + n ≤ 32) : bits_Insert.f (w : Int) (p : Int) (n : Int) (v : Int) = some ((ins w p n v : Nat) : Int) := by
  have hpn : 2 ^ n ≤ 2 ^ 32 := Nat.pow_le_pow_right (by decide) (by omega)
  have hq : 0 < 2 ^ n := Nat.two_pow_pos n
  have hvn : v % 2 ^ n < 2 ^ n := Nat.mod_lt _ hq
  have hall : 18446744073709551615 % 2 ^ n = 2 ^ n - 1 := by
    rw [show (18446744073709551615 : Nat) = 2 ^ 64 - 1 from rfl]
    refine Nat.eq_of_testBit_eq fun i => ?_
    rw [mod_bit, mask_bit, mask_bit]
    by_cases h : i < n
    · have : i < 64 := by omega
      simp [h, this]
    · simp [h]
  unfold bits_Insert.f
  have h0 : bits_low_uint64.f 18446744073709551615 (n : Int) = some ((2 ^ n - 1 : Nat) : Int) := by
    have := i_low 18446744073709551615 n (by decide) (by omega)
    rw [hall] at this; exact this
  rw [h0, Option.bind_some, u64_nat p (by omega), if_pos (Int.natCast_nonneg p), u64_nat v (by omega), i_low v n (by omega) (by omega), Option.bind_some]
  have small : ∀ x : Nat, x < 2 ^ n → shl .u32 (((x : Nat) : Int) % 4294967296) (p : Int) = ((x * 2 ^ p : Nat) : Int) := fun x hx => by
    have hb : x * 2 ^ p < 2 ^ 32 := by
      refine Nat.lt_of_lt_of_le (Nat.mul_lt_mul_of_pos_right hx (Nat.two_pow_pos p)) ?_
      rw [← Nat.pow_add]; exact Nat.pow_le_pow_right (by decide) (by omega)
    unfold shl
    rw [show IntKind.u32.bits = 32 from rfl, i_min p 32 (by omega), IntKind.wrap_u32]
    rw [show ((x : Nat) : Int) % 4294967296 = (x : Int) by omega]
    have c : ((2 : Int) ^ p) = ((2 ^ p : Nat) : Int) := by simp
    rw [c, ← Int.natCast_mul]
    omega
  rw [small _ (by omega), small _ hvn, andNot_nat]
  have hvb : v % 2 ^ n * 2 ^ p < 2 ^ 32 := by
    refine Nat.lt_of_lt_of_le (Nat.mul_lt_mul_of_pos_right hvn (Nat.two_pow_pos p)) ?_
    rw [← Nat.pow_add]; exact Nat.pow_le_pow_right (by decide) (by omega)
  rw [or_nat32 _ _ (but_lt _ _) hvb, ins_eq hw hp]
theorem i_sign (v n : Nat) (h1 : 1 ≤ n) (hn : n ≤ 32) : bits_SignExtend.f (v : Int) (n : Int) = some (sgn v n) := by
  unfold bits_SignExtend.f
  have e : IntKind.u64.wrap (wrap64 (32 - (n : Int))) = ((32 - n : Nat) : Int) := by
    rw [w64_int _ (by omega) (by omega), u64_int _ (by omega) (by omega)]; omega
  rw [e, if_pos (Int.natCast_nonneg _)]
  unfold shr shl
  rw [show IntKind.u32.bits = 32 from rfl, show IntKind.i32.bits = 32 from rfl, i_min _ 32 (by omega), IntKind.wrap_u32, sgn_eq h1 hn]
theorem i_fits (x : Int) (n : Nat) (h1 : 1 ≤ n) (hn : n ≤ 32) : bits_FitsSigned.f x (n : Int) = some (fits x n) := by
  unfold bits_FitsSigned.f
  rw [← wd_cast, i_sign _ _ h1 hn, Option.bind_some]
  congr 1
  rw [Bool.eq_iff_iff, beq_iff_eq, sgn_wd h1 hn]
theorem i_lowbits (x : Int) (n : Nat) (hn : n ≤ 32) : bits_LowBits.f x (n : Int) = some ((wd x % 2 ^ n : Nat) : Int) := by
  unfold bits_LowBits.f
  rw [← wd_cast]
  have := i_extract (wd x) 0 n (wd_lt x) (by omega) hn
  rw [fld_zero] at this
  rw [show ((0 : Nat) : Int) = 0 from rfl] at this
  rw [this, Option.bind_some]
theorem i_awake : gaolerlaw01_awake.f = some true := by decide +kernel
/-- Two bytes name a valid field. -/
theorem i_place (a b : Nat) (ha : a < 256) (hb : b < 256) : ∃ p n : Nat, 1 ≤ n ∧ p + n ≤ 32 ∧ gaolerref01_Place.f (a : Int) (b : Int) = some ((p : Int), (n : Int)) := by
  refine ⟨b % (33 - (1 + a % 32)), 1 + a % 32, by omega, ?_, ?_⟩
  · have := Nat.mod_lt b (show 0 < 33 - (1 + a % 32) by omega); omega
  · unfold gaolerref01_Place.f
    have e1 : Int.tmod (a : Int) 32 = ((a % 32 : Nat) : Int) := by rw [Int.tmod_eq_emod_of_nonneg (by omega)]; omega
    rw [e1, w64_int ((a % 32 : Nat) : Int) (by omega) (by omega), w64_int (1 + ((a % 32 : Nat) : Int)) (by omega) (by omega), w64_int (33 - (1 + ((a % 32 : Nat) : Int))) (by omega) (by omega), if_neg (by omega), w64_int (b : Int) (by omega) (by omega)]
    have e2 : (33 : Int) - (1 + ((a % 32 : Nat) : Int)) = ((33 - (1 + a % 32) : Nat) : Int) := by omega
    rw [e2, Int.tmod_eq_emod_of_nonneg (by omega), ← Int.natCast_emod]
    congr 1
theorem fld_ins {w p n v : Nat} : fld (ins w p n v) p n = v % 2 ^ n :=
  Nat.eq_of_testBit_eq fun i => by
    rw [fld_bit, ins_bit, mod_bit]
    by_cases h : i < n
    · rw [if_neg (by omega), if_pos (by omega), show p + i - p = i by omega]
    · simp [h]
theorem ins_fld {w p n v : Nat} : ins (ins w p n v) p n (fld w p n) = w :=
  Nat.eq_of_testBit_eq fun i => by
    rw [ins_bit, ins_bit]
    by_cases h : i < p
    · rw [if_pos h, if_pos h]
    · rw [if_neg h]
      by_cases h2 : i < p + n
      · rw [if_pos h2, fld_bit, decide_eq_true (by omega), Bool.true_and, show p + (i - p) = i by omega]
      · rw [if_neg h2, if_neg h, if_neg h2]
theorem ins_ins {w p n v u : Nat} : ins (ins w p n v) p n u = ins w p n u :=
  Nat.eq_of_testBit_eq fun i => by
    rw [ins_bit, ins_bit, ins_bit]
    by_cases h : i < p
    · rw [if_pos h, if_pos h, if_pos h]
    · rw [if_neg h]
      by_cases h2 : i < p + n
      · rw [if_pos h2, if_neg h, if_pos h2]
      · rw [if_neg h2, if_neg h, if_neg h2, if_neg h, if_neg h2]
theorem fld_apart {w p n v q m : Nat} (h : p + n ≤ q ∨ q + m ≤ p) : fld (ins w p n v) q m = fld w q m :=
  Nat.eq_of_testBit_eq fun i => by
    rw [fld_bit, fld_bit, ins_bit]
    by_cases hi : i < m
    · rcases h with h | h
      · rw [if_neg (by omega), if_neg (by omega)]
      · rw [if_pos (by omega)]
    · simp [hi]
theorem ins_comm {w p n v q m u : Nat} (h : p + n ≤ q ∨ q + m ≤ p) : ins (ins w q m u) p n v = ins (ins w p n v) q m u :=
  Nat.eq_of_testBit_eq fun i => by
    rw [ins_bit, ins_bit, ins_bit, ins_bit]
    by_cases h1 : i < p
    · rw [if_pos h1]
      by_cases h2 : i < q
      · rw [if_pos h2, if_pos h2, if_pos h1]
      · rw [if_neg h2, if_neg h2]
        by_cases h3 : i < q + m
        · rw [if_pos h3, if_pos h3]
        · rw [if_neg h3, if_neg h3, if_pos h1]
    · rw [if_neg h1]
      by_cases h2 : i < p + n
      · rw [if_pos h2]
        by_cases h3 : i < q
        · rw [if_pos h3, if_neg h1, if_pos h2]
        · rw [if_neg h3, if_neg (show ¬ i < q + m by omega), if_neg h1, if_pos h2]
      · rw [if_neg h2]
        by_cases h3 : i < q
        · rw [if_pos h3, if_pos h3, if_neg h1, if_neg h2]
        · rw [if_neg h3, if_neg h3]
          by_cases h4 : i < q + m
          · rw [if_pos h4, if_pos h4]
          · rw [if_neg h4, if_neg h4, if_neg h1, if_neg h2]
theorem BitsInsertThenExtract : gaolerlaw01_BitsInsertThenExtract.Pure := by
  intro a0 a1 a2 a3 a4 a5 a6 h0 h1 h2 h3 h4 h5 h6
  obtain ⟨w, hw, rfl⟩ := wf_u32 h0
  obtain ⟨v, hv, rfl⟩ := wf_u32 h1
  obtain ⟨u, hu, rfl⟩ := wf_u32 h2
  obtain ⟨a, ha, rfl⟩ := wf_u8 h3
  obtain ⟨b, hb, rfl⟩ := wf_u8 h4
  obtain ⟨c, hc, rfl⟩ := wf_u8 h5
  obtain ⟨d, hd, rfl⟩ := wf_u8 h6
  obtain ⟨p, n, g1, g2, hpl⟩ := i_place a b ha hb
  obtain ⟨q, m, g3, g4, hql⟩ := i_place c d hc hd
  have hpw := ins_lt (v := v) hw g2
  have hqw := ins_lt (v := u) hw g4
  refine ⟨3, ?_⟩
  unfold gaolerlaw01_BitsInsertThenExtract.f
  rw [i_awake, Option.bind_some, if_pos rfl, hpl, Option.bind_some, hql, Option.bind_some]
  dsimp only
  have z : ∀ x : Nat, x < 2 ^ 32 → bits_Extract.f (x : Int) 0 (n : Int) = some ((x % 2 ^ n : Nat) : Int) := fun x hx => by
    have := i_extract x 0 n hx (by omega) (by omega); rw [fld_zero] at this; exact this
  rw [i_insert w p n v hw hv g2, Option.bind_some, i_extract _ p n hpw (by omega) (by omega), Option.bind_some, z v hv, Option.bind_some, fld_ins, if_pos rfl]
  rw [i_extract w p n hw (by omega) (by omega), Option.bind_some, i_insert _ p n _ hpw (fld_lt32 (by omega)) g2, Option.bind_some, ins_fld, if_pos rfl]
  rw [i_insert _ p n u hpw hu g2, Option.bind_some, i_insert w p n u hw hu g2, Option.bind_some, ins_ins]
  simp only [gaolerlaw01_BitsInsertThenExtract.j0]
  rw [if_neg (by simp), w64_int _ (by omega) (by omega)]
  have last : (p + n ≤ q ∨ q + m ≤ p) → gaolerlaw01_BitsInsertThenExtract.j1 2 (w : Int) (v : Int) (u : Int) (p : Int) (n : Int) (q : Int) (m : Int) ((ins w p n v : Nat) : Int) true = some true := fun h => by
    simp only [gaolerlaw01_BitsInsertThenExtract.j1]
    rw [if_pos trivial, i_extract _ q m hpw (by omega) (by omega), Option.bind_some, i_extract w q m hw (by omega) (by omega), Option.bind_some, fld_apart h, if_pos rfl]
    rw [i_insert w q m u hw hu g4, Option.bind_some, i_insert _ p n v hqw hv g2, Option.bind_some, i_insert _ q m u hpw hu g4, Option.bind_some, ins_comm h]
    simp
  by_cases c1 : (p : Int) + (n : Int) ≤ (q : Int)
  · rw [if_pos c1]; exact last (by omega)
  · rw [if_neg c1, w64_int _ (by omega) (by omega)]
    by_cases c2 : (q : Int) + (m : Int) ≤ (p : Int)
    · rw [decide_eq_true c2]; exact last (by omega)
    · rw [decide_eq_false c2]; simp only [gaolerlaw01_BitsInsertThenExtract.j1]; rw [if_neg (by simp)]
end Go.Proofs.Ytgabcelholefmaa.Pure
