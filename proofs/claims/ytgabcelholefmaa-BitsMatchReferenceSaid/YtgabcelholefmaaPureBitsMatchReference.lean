/- The five functions of package bits answer as the set's reference does, for every word, value and valid field. -/
import Derived.Test.YtgabcelholefmaaPBitsMatchReferencex2
import Derived.Test.YtgabcelholefmaaBitsMath
namespace Go.Proofs.Ytgabcelholefmaa.Pure
open Go.RowKit Go.Proofs.Ytgabcelholefmaa.PBitsMatchReference Go.Proofs.YtgabcelholefmaaW.PrintWords Go.Proofs.YtgabcelholefmaaW.PrintLast Go.Proofs.Ytgabcelholefmaa.Bm
theorem wf_u32 {x : Int} (h : (Lit.int .u32 x).wf = true) : ∃ n : Nat, n < 2 ^ 32 ∧ x = (n : Int) := by
  simp [Lit.wf, IntKind.min, IntKind.max, IntKind.bits, IntKind.signed] at h
  exact ⟨x.toNat, by omega, by omega⟩
theorem wf_u8 {x : Int} (h : (Lit.int .u8 x).wf = true) : ∃ n : Nat, n < 256 ∧ x = (n : Int) := by
  simp [Lit.wf, IntKind.min, IntKind.max, IntKind.bits, IntKind.signed] at h
  exact ⟨x.toNat, by omega, by omega⟩
theorem wf_i32 {x : Int} (h : (Lit.int .i32 x).wf = true) : -2147483648 ≤ x ∧ x < 2147483648 := by
  simp [Lit.wf, IntKind.min, IntKind.max, IntKind.bits, IntKind.signed] at h
  omega
/-! ### What the printed functions of package bits come to, on natural numbers -/
theorem i_min (n b : Nat) (h : n ≤ b) : min ((n : Int).toNat) b = n := by omega
theorem i_low (w n : Nat) (hw : w < 2 ^ 64) (hn : n ≤ 32) : bits_low_uint64.f (w : Int) (n : Int) = some ((w % 2 ^ n : Nat) : Int) := by
  have hp : 2 ^ n ≤ 2 ^ 32 := Nat.pow_le_pow_right (by decide) hn
  have hq : 0 < 2 ^ n := Nat.two_pow_pos n
  unfold bits_low_uint64.f
  rw [u64_nat n (by omega), if_pos (Int.natCast_nonneg n)]
  have e : IntKind.u64.wrap (shl .u64 1 (n : Int) - 1) = ((2 ^ n - 1 : Nat) : Int) := by
    unfold shl
    rw [show IntKind.u64.bits = 64 from rfl, i_min n 64 (by omega), Int.one_mul]
    have c : ((2 : Int) ^ n) = ((2 ^ n : Nat) : Int) := by simp
    rw [c, u64_nat _ (by omega), u64_int _ (by omega) (by omega)]
    omega
  rw [e, and_nat64 _ _ hw (by omega), and_mask]
theorem i_extract (w p n : Nat) (hw : w < 2 ^ 32) (hp : p ≤ 32) (hn : n ≤ 32) : bits_Extract.f (w : Int) (p : Int) (n : Int) = some ((fld w p n : Nat) : Int) := by
  unfold bits_Extract.f
  rw [u64_nat p (by omega), if_pos (Int.natCast_nonneg p), u64_nat w (by omega)]
  have e : shr .u64 (w : Int) (p : Int) = ((w / 2 ^ p : Nat) : Int) := by
    unfold shr
    rw [show IntKind.u64.bits = 64 from rfl, i_min p 64 (by omega)]
    simp
  rw [e, i_low _ _ (Nat.lt_of_le_of_lt (Nat.div_le_self _ _) (by omega)) hn, Option.bind_some]
  have := fld_lt32 (w := w) (p := p) hn
  unfold fld at this ⊢
  congr 1
  omega
theorem i_insert (w p n v : Nat) (hw : w < 2 ^ 32) (hv : v < 2 ^ 32) (hp : p + n ≤ 32) : bits_Insert.f (w : Int) (p : Int) (n : Int) (v : Int) = some ((ins w p n v : Nat) : Int) := by
  have hpn : 2 ^ n ≤ 2 ^ 32 := Nat.pow_le_pow_right (by decide) (by omega)
  have hq : 0 < 2 ^ n := Nat.two_pow_pos n
  have hvn : v % 2 ^ n < 2 ^ n := Nat.mod_lt _ hq
  have hall : 18446744073709551615 % 2 ^ n = 2 ^ n - 1 := by
    rw [show (18446744073709551615 : Nat) = 2 ^ 64 - 1 from rfl]
    refine Nat.eq_of_testBit_eq fun i => ?_
    rw [mod_bit, mask_bit, mask_bit]
    by_cases h : i < n
    · have : i < 64 := by omega
      simp [h, this]
    · simp [h]
  unfold bits_Insert.f
  have h0 : bits_low_uint64.f 18446744073709551615 (n : Int) = some ((2 ^ n - 1 : Nat) : Int) := by
    have := i_low 18446744073709551615 n (by decide) (by omega)
    rw [hall] at this; exact this
  rw [h0, Option.bind_some, u64_nat p (by omega), if_pos (Int.natCast_nonneg p), u64_nat v (by omega), i_low v n (by omega) (by omega), Option.bind_some]
  have small : ∀ x : Nat, x < 2 ^ n → shl .u32 (((x : Nat) : Int) % 4294967296) (p : Int) = ((x * 2 ^ p : Nat) : Int) := fun x hx => by
    have hb : x * 2 ^ p < 2 ^ 32 := by
      refine Nat.lt_of_lt_of_le (Nat.mul_lt_mul_of_pos_right hx (Nat.two_pow_pos p)) ?_
      rw [← Nat.pow_add]; exact Nat.pow_le_pow_right (by decide) (by omega)
    unfold shl
    rw [show IntKind.u32.bits = 32 from rfl, i_min p 32 (by omega), IntKind.wrap_u32]
    rw [show ((x : Nat) : Int) % 4294967296 = (x : Int) by omega]
    have c : ((2 : Int) ^ p) = ((2 ^ p : Nat) : Int) := by simp
    rw [c, ← Int.natCast_mul]
    omega
  rw [small _ (by omega), small _ hvn, andNot_nat]
  have hvb : v % 2 ^ n * 2 ^ p < 2 ^ 32 := by
    refine Nat.lt_of_lt_of_le (Nat.mul_lt_mul_of_pos_right hvn (Nat.two_pow_pos p)) ?_
    rw [← Nat.pow_add]; exact Nat.pow_le_pow_right (by decide) (by omega)
  rw [or_nat32 _ _ (but_lt _ _) hvb, ins_eq hw hp]
theorem i_sign (v n : Nat) (h1 : 1 ≤ n) (hn : n ≤ 32) : bits_SignExtend.f (v : Int) (n : Int) = some (sgn v n) := by
  unfold bits_SignExtend.f
  have e : IntKind.u64.wrap (wrap64 (32 - (n : Int))) = ((32 - n : Nat) : Int) := by
    rw [w64_int _ (by omega) (by omega), u64_int _ (by omega) (by omega)]; omega
  rw [e, if_pos (Int.natCast_nonneg _)]
  unfold shr shl
  rw [show IntKind.u32.bits = 32 from rfl, show IntKind.i32.bits = 32 from rfl, i_min _ 32 (by omega), IntKind.wrap_u32, sgn_eq h1 hn]
theorem i_fits (x : Int) (n : Nat) (h1 : 1 ≤ n) (hn : n ≤ 32) : bits_FitsSigned.f x (n : Int) = some (fits x n) := by
  unfold bits_FitsSigned.f
  rw [← wd_cast, i_sign _ _ h1 hn, Option.bind_some]
  congr 1
  rw [Bool.eq_iff_iff, beq_iff_eq, sgn_wd h1 hn]
theorem i_lowbits (x : Int) (n : Nat) (hn : n ≤ 32) : bits_LowBits.f x (n : Int) = some ((wd x % 2 ^ n : Nat) : Int) := by
  unfold bits_LowBits.f
  rw [← wd_cast]
  have := i_extract (wd x) 0 n (wd_lt x) (by omega) hn
  rw [fld_zero] at this
  rw [show ((0 : Nat) : Int) = 0 from rfl] at this
  rw [this, Option.bind_some]
theorem i_awake : gaolerlaw01_awake.f = some true := by decide +kernel
/-- Two bytes name a valid field. -/
theorem i_place (a b : Nat) (ha : a < 256) (hb : b < 256) : ∃ p n : Nat, 1 ≤ n ∧ p + n ≤ 32 ∧ gaolerref01_Place.f (a : Int) (b : Int) = some ((p : Int), (n : Int)) := by
  refine ⟨b % (33 - (1 + a % 32)), 1 + a % 32, by omega, ?_, ?_⟩
  · have := Nat.mod_lt b (show 0 < 33 - (1 + a % 32) by omega); omega
  · unfold gaolerref01_Place.f
    have e1 : Int.tmod (a : Int) 32 = ((a % 32 : Nat) : Int) := by rw [Int.tmod_eq_emod_of_nonneg (by omega)]; omega
    rw [e1, w64_int ((a % 32 : Nat) : Int) (by omega) (by omega), w64_int (1 + ((a % 32 : Nat) : Int)) (by omega) (by omega), w64_int (33 - (1 + ((a % 32 : Nat) : Int))) (by omega) (by omega), if_neg (by omega), w64_int (b : Int) (by omega) (by omega)]
    have e2 : (33 : Int) - (1 + ((a % 32 : Nat) : Int)) = ((33 - (1 + a % 32) : Nat) : Int) := by omega
    rw [e2, Int.tmod_eq_emod_of_nonneg (by omega), ← Int.natCast_emod]
    congr 1
/-! ### What the printed functions of the reference come to -/
theorem i_pow_l (n : Nat) (hn : n < 64) (d : Nat) : ∀ (k i : Nat), i + d = n → d < k → gaolerref01_Pow.l0 k (n : Int) ((2 ^ i : Nat) : Int) (i : Int) = some ((2 ^ n : Nat) : Int) := by
  induction d with
  | zero =>
    intro k i hi hk
    obtain ⟨k, rfl⟩ : ∃ m, k = m + 1 := ⟨k - 1, by omega⟩
    simp only [gaolerref01_Pow.l0]; rw [if_neg (by omega)]
    obtain rfl : i = n := by omega
    rfl
  | succ d ih =>
    intro k i hi hk
    obtain ⟨k, rfl⟩ : ∃ m, k = m + 1 := ⟨k - 1, by omega⟩
    simp only [gaolerref01_Pow.l0]; rw [if_pos (by omega)]
    have hp : 2 ^ (i + 1) ≤ 2 ^ 63 := Nat.pow_le_pow_right (by decide) (by omega)
    have e : IntKind.u64.wrap (((2 ^ i : Nat) : Int) * 2) = ((2 ^ (i + 1) : Nat) : Int) := by
      rw [Nat.pow_succ] at hp ⊢
      rw [u64_int _ (by omega) (by omega)]; omega
    rw [e, w64_int _ (by omega) (by omega)]
    exact ih k (i + 1) (by omega) (by omega)
theorem i_pow (k n : Nat) (hn : n < 64) (hk : n < k) : gaolerref01_Pow.f k (n : Int) = some ((2 ^ n : Nat) : Int) := i_pow_l n hn n k 0 (by omega) hk
theorem i_field (k w p n : Nat) (hw : w < 2 ^ 32) (hp : p ≤ 32) (hn : n ≤ 32) (h1 : p < k) (h2 : n < k) : gaolerref01_Field.f k (w : Int) (p : Int) (n : Int) = some ((fld w p n : Nat) : Int) := by
  unfold gaolerref01_Field.f
  have q1 := Nat.two_pow_pos p
  have q2 := Nat.two_pow_pos n
  rw [i_pow k p (by omega) h1, Option.bind_some, if_neg (by omega), i_pow k n (by omega) h2, Option.bind_some, if_neg (by omega), u64_nat w (by omega)]
  rw [Int.tdiv_eq_ediv_of_nonneg (by omega), ← Int.natCast_ediv]
  have hd : w / 2 ^ p ≤ w := Nat.div_le_self _ _
  rw [u64_nat _ (by omega), Int.tmod_eq_emod_of_nonneg (Int.natCast_nonneg _), ← Int.natCast_emod]
  have := fld_lt32 (w := w) (p := p) hn
  unfold fld at this ⊢
  congr 1
  omega
theorem fld_one (w i : Nat) : fld w i 1 = (w.testBit i).toNat := by unfold fld; rw [Nat.toNat_testBit]
theorem i_put_l (w p n v : Nat) (hw : w < 2 ^ 32) (hv : v < 2 ^ 32) (hp : p + n ≤ 32) (d : Nat) : ∀ (k i : Nat), i + d = 32 → 2 * d + 40 < k →
    gaolerref01_Put.l0 k (w : Int) (p : Int) (n : Int) (v : Int) ((ins w p n v % 2 ^ i : Nat) : Int) (i : Int) = some ((ins w p n v : Nat) : Int) := by
  have hx := ins_lt (v := v) hw hp
  induction d with
  | zero =>
    intro k i hi hk
    obtain ⟨k, rfl⟩ : ∃ m, k = m + 1 := ⟨k - 1, by omega⟩
    obtain rfl : i = 32 := by omega
    simp only [gaolerref01_Put.l0]; rw [if_neg (by omega)]
    rw [Nat.mod_eq_of_lt hx]
    congr 1; omega
  | succ d ih =>
    intro k i hi hk
    obtain ⟨k, rfl⟩ : ∃ m, k = m + 2 := ⟨k - 2, by omega⟩
    have step : ∀ t : Nat, t = ((ins w p n v).testBit i).toNat →
        gaolerref01_Put.l0 k (w : Int) (p : Int) (n : Int) (v : Int) (IntKind.u64.wrap (((ins w p n v % 2 ^ i : Nat) : Int) + (IntKind.u64.wrap ((IntKind.u64.wrap ((t : Nat) : Int)) * ((2 ^ i : Nat) : Int))))) (wrap64 ((i : Int) + 1)) = some ((ins w p n v : Nat) : Int) := fun t ht => by
      have hl : ins w p n v % 2 ^ (i + 1) = ins w p n v % 2 ^ i + 2 ^ i * t := by rw [Nat.mod_pow_succ, ht, Nat.toNat_testBit]
      have t1 : t ≤ 1 := by rw [ht]; exact Bool.toNat_le _
      have b1 : 2 ^ i ≤ 2 ^ 31 := Nat.pow_le_pow_right (by decide) (by omega)
      have b2 := Nat.mod_lt (ins w p n v) (Nat.two_pow_pos i)
      have hm : t * 2 ^ i ≤ 2 ^ 31 := by
        calc t * 2 ^ i ≤ 1 * 2 ^ i := Nat.mul_le_mul_right _ t1
          _ ≤ 2 ^ 31 := by omega
      rw [u64_nat t (by omega), ← Int.natCast_mul, u64_nat _ (by omega), ← Int.natCast_add, u64_nat _ (by omega), w64_int _ (by omega) (by omega), Nat.mul_comm t, ← hl]
      exact ih k (i + 1) (by omega) (by omega)
    have one : ((1 : Nat) : Int) = 1 := rfl
    have fw := i_field (k + 1) w i 1 hw (by omega) (by omega) (by omega) (by omega)
    rw [one] at fw
    simp only [gaolerref01_Put.l0]; rw [if_pos (by omega), fw, Option.bind_some]
    have hb := ins_bit w p n v i
    by_cases g1 : (i : Int) ≥ (p : Int)
    · rw [if_pos g1, w64_int _ (by omega) (by omega)]
      by_cases g2 : i < p + n
      · simp only [gaolerref01_Put.j1]
        rw [if_pos (by simp; omega), w64_int _ (by omega) (by omega)]
        have fv := i_field k v (i - p) 1 hv (by omega) (by omega) (by omega) (by omega)
        rw [one] at fv
        rw [show ((i : Int) - (p : Int)) = ((i - p : Nat) : Int) by omega, fv, Option.bind_some, i_pow k i (by omega) (by omega), Option.bind_some]
        exact step _ (by rw [fld_one, hb, if_neg (by omega), if_pos g2])
      · simp only [gaolerref01_Put.j1]
        rw [if_neg (by simp; omega), i_pow k i (by omega) (by omega), Option.bind_some]
        exact step _ (by rw [fld_one, hb, if_neg (by omega), if_neg g2])
    · rw [if_neg g1]
      simp only [gaolerref01_Put.j1]
      rw [if_neg (by simp), i_pow k i (by omega) (by omega), Option.bind_some]
      exact step _ (by rw [fld_one, hb, if_pos (by omega)])
theorem i_put (k w p n v : Nat) (hw : w < 2 ^ 32) (hv : v < 2 ^ 32) (hp : p + n ≤ 32) (hk : 110 ≤ k) : gaolerref01_Put.f k (w : Int) (p : Int) (n : Int) (v : Int) = some ((ins w p n v : Nat) : Int) := by
  unfold gaolerref01_Put.f
  have := i_put_l w p n v hw hv hp 32 k 0 (by omega) (by omega)
  rw [Nat.pow_zero, Nat.mod_one] at this
  exact this
theorem i_rsign (k v n : Nat) (hv : v < 2 ^ 32) (h1 : 1 ≤ n) (hn : n ≤ 32) (hk : 40 ≤ k) : gaolerref01_Sign.f k (v : Int) (n : Int) = some (sgn v n) := by
  unfold gaolerref01_Sign.f
  have f0 := i_field k v 0 n hv (by omega) hn (by omega) (by omega)
  rw [show ((0 : Nat) : Int) = 0 from rfl, fld_zero] at f0
  have h := two_pow_pred h1
  have hb : 2 ^ n ≤ 2 ^ 32 := Nat.pow_le_pow_right (by decide) hn
  have hl := Nat.mod_lt v (Nat.two_pow_pos n)
  have hs := sgn_fits (v := v) h1
  rw [f0, Option.bind_some, w64_int ((n : Int) - 1) (by omega) (by omega), show ((n : Int) - 1) = ((n - 1 : Nat) : Int) by omega, i_pow k (n - 1) (by omega) (by omega), Option.bind_some]
  rw [w64_int ((v % 2 ^ n : Nat) : Int) (by omega) (by omega), w64_int ((2 ^ (n - 1) : Nat) : Int) (by omega) (by omega)]
  unfold sgn at hs ⊢
  by_cases g : v % 2 ^ n < 2 ^ (n - 1)
  · rw [if_pos g] at hs ⊢
    rw [if_neg (by omega), w32_int _ (by omega) (by omega)]
  · rw [if_neg g] at hs ⊢
    rw [if_pos (by omega), i_pow k n (by omega) (by omega), Option.bind_some, w64_int ((2 ^ n : Nat) : Int) (by omega) (by omega), w64_int _ (by omega) (by omega), w32_int _ (by omega) (by omega)]
theorem i_rfits (k : Nat) (x : Int) (n : Nat) (hx : -2147483648 ≤ x ∧ x < 2147483648) (h1 : 1 ≤ n) (hn : n ≤ 32) (hk : 40 ≤ k) : gaolerref01_Fits.f k x (n : Int) = some (fits x n) := by
  unfold gaolerref01_Fits.f
  have hb : 2 ^ (n - 1) ≤ 2 ^ 31 := Nat.pow_le_pow_right (by decide) (by omega)
  rw [w64_int ((n : Int) - 1) (by omega) (by omega), show ((n : Int) - 1) = ((n - 1 : Nat) : Int) by omega, i_pow k (n - 1) (by omega) (by omega), Option.bind_some]
  unfold fits
  generalize 2 ^ (n - 1) = q at *
  rw [w64_int x (by omega) (by omega), w64_int (q : Int) (by omega) (by omega), w64_int (-(q : Int)) (by omega) (by omega)]
  by_cases g : x ≥ -(q : Int)
  · rw [if_pos g, decide_eq_true (show -(q : Int) ≤ x from g), Bool.true_and]
  · rw [if_neg g, decide_eq_false (show ¬ -(q : Int) ≤ x from g), Bool.false_and]
theorem i_rlow (k : Nat) (x : Int) (n : Nat) (hx : -2147483648 ≤ x ∧ x < 2147483648) (hn : n ≤ 32) (hk : 40 ≤ k) : gaolerref01_Low.f k x (n : Int) = some ((wd x % 2 ^ n : Nat) : Int) := by
  unfold gaolerref01_Low.f
  have hb : 2 ^ n ≤ 2 ^ 32 := Nat.pow_le_pow_right (by decide) hn
  have q := Nat.two_pow_pos n
  have hw := wd_lt x
  have hl := Nat.mod_lt (wd x) q
  have fin : Int.tmod ((wd x : Nat) : Int) ((2 ^ n : Nat) : Int) % 4294967296 = ((wd x % 2 ^ n : Nat) : Int) := by
    rw [Int.tmod_eq_emod_of_nonneg (by omega), ← Int.natCast_emod]; omega
  rw [w64_int x (by omega) (by omega)]
  by_cases g : x < 0
  · have e : x + 4294967296 = ((wd x : Nat) : Int) := by rw [wd_cast]; omega
    rw [if_pos g, i_pow k n (by omega) (by omega), Option.bind_some, if_neg (by omega), w64_int _ (by omega) (by omega), e, u64_nat _ (by omega), fin]
  · have e : x = ((wd x : Nat) : Int) := by rw [wd_cast]; omega
    have e2 : IntKind.u64.wrap x = ((wd x : Nat) : Int) := by rw [u64_int x (by omega) (by omega)]; exact e
    rw [if_neg g, i_pow k n (by omega) (by omega), Option.bind_some, if_neg (by omega), e2, fin]
theorem BitsMatchReference : gaolerlaw01_BitsMatchReference.Pure := by
  intro a0 a1 a2 a3 a4 h0 h1 h2 h3 h4
  obtain ⟨w, hw, rfl⟩ := wf_u32 h0
  obtain ⟨v, hv, rfl⟩ := wf_u32 h1
  have hx := wf_i32 h2
  obtain ⟨a, ha, rfl⟩ := wf_u8 h3
  obtain ⟨b, hb, rfl⟩ := wf_u8 h4
  obtain ⟨p, n, g1, g2, hpl⟩ := i_place a b ha hb
  refine ⟨200, ?_⟩
  unfold gaolerlaw01_BitsMatchReference.f
  rw [i_awake, Option.bind_some, if_pos rfl, hpl, Option.bind_some]
  dsimp only
  rw [i_extract w p n hw (by omega) (by omega), Option.bind_some, i_field 200 w p n hw (by omega) (by omega) (by omega) (by omega), Option.bind_some, if_pos rfl]
  rw [i_insert w p n v hw hv g2, Option.bind_some, i_put 200 w p n v hw hv g2 (by omega), Option.bind_some, if_pos rfl]
  rw [i_sign v n g1 (by omega), Option.bind_some, i_rsign 200 v n hv g1 (by omega) (by omega), Option.bind_some, if_pos rfl]
  rw [i_fits a2 n g1 (by omega), Option.bind_some, i_rfits 200 a2 n hx g1 (by omega) (by omega), Option.bind_some, if_pos (by simp)]
  rw [i_lowbits a2 n (by omega), Option.bind_some, i_rlow 200 a2 n hx (by omega) (by omega), Option.bind_some]
  simp
end Go.Proofs.Ytgabcelholefmaa.Pure
