/- What the printed functions of package bits and of the references 01 and 02 come to, on natural numbers; each under its bounds. -/
import Derived.Test.YtihnglgknncgpaaGreatDoorPB
import Derived.Test.YtihnglgknncgpaaGreatDoorPAsmEveryWordHasOneLinex6
import Derived.Test.YtihnglgknncgpaaGreatDoorBitsMath
namespace Go.Proofs.YtihnglgknncgpaaGreatDoor.Isa
open Go.RowKit Go.Proofs.YtihnglgknncgpaaGreatDoor.PAsmEveryWordHasOneLine Go.Proofs.YtihnglgknncgpaaGreatDoorW.PrintWords Go.Proofs.YtihnglgknncgpaaGreatDoorW.PrintLast Go.Proofs.YtihnglgknncgpaaGreatDoorW.PrintMore Go.Proofs.YtihnglgknncgpaaGreatDoor.Bm
theorem wf_u32 {x : Int} (h : (Lit.int .u32 x).wf = true) : ∃ n : Nat, n < 2 ^ 32 ∧ x = (n : Int) := by
  simp [Lit.wf, IntKind.min, IntKind.max, IntKind.bits, IntKind.signed] at h
  exact ⟨x.toNat, by omega, by omega⟩
theorem wf_u8 {x : Int} (h : (Lit.int .u8 x).wf = true) : ∃ n : Nat, n < 256 ∧ x = (n : Int) := by
  simp [Lit.wf, IntKind.min, IntKind.max, IntKind.bits, IntKind.signed] at h
  exact ⟨x.toNat, by omega, by omega⟩
theorem wf_i32 {x : Int} (h : (Lit.int .i32 x).wf = true) : -2147483648 ≤ x ∧ x < 2147483648 := by
  simp [Lit.wf, IntKind.min, IntKind.max, IntKind.bits, IntKind.signed] at h
  omega
/-! ### What the printed functions of package bits come to, on natural numbers -/
theorem i_min (n b : Nat) (h : n ≤ b) : min ((n : Int).toNat) b = n := by omega
theorem i_low (w n : Nat) (hw : w < 2 ^ 64) (hn : n ≤ 32) : bits_low_uint64.f (w : Int) (n : Int) = some ((w % 2 ^ n : Nat) : Int) := by
  have hp : 2 ^ n ≤ 2 ^ 32 := Nat.pow_le_pow_right (by decide) hn
  have hq : 0 < 2 ^ n := Nat.two_pow_pos n
  unfold bits_low_uint64.f
  rw [u64_nat n (by omega), if_pos (Int.natCast_nonneg n)]
  have e : IntKind.u64.wrap (shl .u64 1 (n : Int) - 1) = ((2 ^ n - 1 : Nat) : Int) := by
    unfold shl
    rw [show IntKind.u64.bits = 64 from rfl, i_min n 64 (by omega), Int.one_mul]
    have c : ((2 : Int) ^ n) = ((2 ^ n : Nat) : Int) := by simp
    rw [c, u64_nat _ (by omega), u64_int _ (by omega) (by omega)]
    omega
  rw [e, and_nat64 _ _ hw (by omega), and_mask]
theorem i_extract (w p n : Nat) (hw : w < 2 ^ 32) (hp : p ≤ 32) (hn : n ≤ 32) : bits_Extract.f (w : Int) (p : Int) (n : Int) = some ((fld w p n : Nat) : Int) := by
  unfold bits_Extract.f
  rw [u64_nat p (by omega), if_pos (Int.natCast_nonneg p), u64_nat w (by omega)]
  have e : shr .u64 (w : Int) (p : Int) = ((w / 2 ^ p : Nat) : Int) := by
    unfold shr
    rw [show IntKind.u64.bits = 64 from rfl, i_min p 64 (by omega)]
    simp
  rw [e, i_low _ _ (Nat.lt_of_le_of_lt (Nat.div_le_self _ _) (by omega)) hn, Option.bind_some]
  have := fld_lt32 (w := w) (p := p) hn
  unfold fld at this ⊢
  congr 1
  omega
theorem i_insert (w p n v : Nat) (hw : w < 2 ^ 32) (hv : v < 2 ^ 32) (hp : p + n ≤ 32) : bits_Insert.f (w : Int) (p : Int) (n : Int) (v : Int) = some ((ins w p n v : Nat) : Int) := by
  have hpn : 2 ^ n ≤ 2 ^ 32 := Nat.pow_le_pow_right (by decide) (by omega)
  have hq : 0 < 2 ^ n := Nat.two_pow_pos n
  have hvn : v % 2 ^ n < 2 ^ n := Nat.mod_lt _ hq
  have hall : 18446744073709551615 % 2 ^ n = 2 ^ n - 1 := by
    rw [show (18446744073709551615 : Nat) = 2 ^ 64 - 1 from rfl]
    refine Nat.eq_of_testBit_eq fun i => ?_
    rw [mod_bit, mask_bit, mask_bit]
    by_cases h : i < n
    · have : i < 64 := by omega
      simp [h, this]
    · simp [h]
  unfold bits_Insert.f
  have h0 : bits_low_uint64.f 18446744073709551615 (n : Int) = some ((2 ^ n - 1 : Nat) : Int) := by
    have := i_low 18446744073709551615 n (by decide) (by omega)
    rw [hall] at this; exact this
  rw [h0, Option.bind_some, u64_nat p (by omega), if_pos (Int.natCast_nonneg p), u64_nat v (by omega), i_low v n (by omega) (by omega), Option.bind_some]
  have small : ∀ x : Nat, x < 2 ^ n → shl .u32 (((x : Nat) : Int) % 4294967296) (p : Int) = ((x * 2 ^ p : Nat) : Int) := fun x hx => by
    have hb : x * 2 ^ p < 2 ^ 32 := by
      refine Nat.lt_of_lt_of_le (Nat.mul_lt_mul_of_pos_right hx (Nat.two_pow_pos p)) ?_
      rw [← Nat.pow_add]; exact Nat.pow_le_pow_right (by decide) (by omega)
    unfold shl
    rw [show IntKind.u32.bits = 32 from rfl, i_min p 32 (by omega), IntKind.wrap_u32]
    rw [show ((x : Nat) : Int) % 4294967296 = (x : Int) by omega]
    have c : ((2 : Int) ^ p) = ((2 ^ p : Nat) : Int) := by simp
    rw [c, ← Int.natCast_mul]
    omega
  rw [small _ (by omega), small _ hvn, andNot_nat]
  have hvb : v % 2 ^ n * 2 ^ p < 2 ^ 32 := by
    refine Nat.lt_of_lt_of_le (Nat.mul_lt_mul_of_pos_right hvn (Nat.two_pow_pos p)) ?_
    rw [← Nat.pow_add]; exact Nat.pow_le_pow_right (by decide) (by omega)
  rw [or_nat32 _ _ (but_lt _ _) hvb, ins_eq hw hp]
theorem i_sign (v n : Nat) (h1 : 1 ≤ n) (hn : n ≤ 32) : bits_SignExtend.f (v : Int) (n : Int) = some (sgn v n) := by
  unfold bits_SignExtend.f
  have e : IntKind.u64.wrap (wrap64 (32 - (n : Int))) = ((32 - n : Nat) : Int) := by
    rw [w64_int _ (by omega) (by omega), u64_int _ (by omega) (by omega)]; omega
  rw [e, if_pos (Int.natCast_nonneg _)]
  unfold shr shl
  rw [show IntKind.u32.bits = 32 from rfl, show IntKind.i32.bits = 32 from rfl, i_min _ 32 (by omega), IntKind.wrap_u32, sgn_eq h1 hn]
theorem i_fits (x : Int) (n : Nat) (h1 : 1 ≤ n) (hn : n ≤ 32) : bits_FitsSigned.f x (n : Int) = some (fits x n) := by
  unfold bits_FitsSigned.f
  rw [← wd_cast, i_sign _ _ h1 hn, Option.bind_some]
  congr 1
  rw [Bool.eq_iff_iff, beq_iff_eq, sgn_wd h1 hn]
theorem i_lowbits (x : Int) (n : Nat) (hn : n ≤ 32) : bits_LowBits.f x (n : Int) = some ((wd x % 2 ^ n : Nat) : Int) := by
  unfold bits_LowBits.f
  rw [← wd_cast]
  have := i_extract (wd x) 0 n (wd_lt x) (by omega) hn
  rw [fld_zero] at this
  rw [show ((0 : Nat) : Int) = 0 from rfl] at this
  rw [this, Option.bind_some]
theorem i_pow_l (n : Nat) (hn : n < 64) (d : Nat) : ∀ (k i : Nat), i + d = n → d < k → gaolerref01_Pow.l0 k (n : Int) ((2 ^ i : Nat) : Int) (i : Int) = some ((2 ^ n : Nat) : Int) := by
  induction d with
  | zero =>
    intro k i hi hk
    obtain ⟨k, rfl⟩ : ∃ m, k = m + 1 := ⟨k - 1, by omega⟩
    simp only [gaolerref01_Pow.l0]; rw [if_neg (by omega)]
    obtain rfl : i = n := by omega
    rfl
  | succ d ih =>
    intro k i hi hk
    obtain ⟨k, rfl⟩ : ∃ m, k = m + 1 := ⟨k - 1, by omega⟩
    simp only [gaolerref01_Pow.l0]; rw [if_pos (by omega)]
    have hp : 2 ^ (i + 1) ≤ 2 ^ 63 := Nat.pow_le_pow_right (by decide) (by omega)
    have e : IntKind.u64.wrap (((2 ^ i : Nat) : Int) * 2) = ((2 ^ (i + 1) : Nat) : Int) := by
      rw [Nat.pow_succ] at hp ⊢
      rw [u64_int _ (by omega) (by omega)]; omega
    rw [e, w64_int _ (by omega) (by omega)]
    exact ih k (i + 1) (by omega) (by omega)
theorem i_pow (k n : Nat) (hn : n < 64) (hk : n < k) : gaolerref01_Pow.f k (n : Int) = some ((2 ^ n : Nat) : Int) := i_pow_l n hn n k 0 (by omega) hk
theorem i_field (k w p n : Nat) (hw : w < 2 ^ 32) (hp : p ≤ 32) (hn : n ≤ 32) (h1 : p < k) (h2 : n < k) : gaolerref01_Field.f k (w : Int) (p : Int) (n : Int) = some ((fld w p n : Nat) : Int) := by
  unfold gaolerref01_Field.f
  have q1 := Nat.two_pow_pos p
  have q2 := Nat.two_pow_pos n
  rw [i_pow k p (by omega) h1, Option.bind_some, if_neg (by omega), i_pow k n (by omega) h2, Option.bind_some, if_neg (by omega), u64_nat w (by omega)]
  rw [Int.tdiv_eq_ediv_of_nonneg (by omega), ← Int.natCast_ediv]
  have hd : w / 2 ^ p ≤ w := Nat.div_le_self _ _
  rw [u64_nat _ (by omega), Int.tmod_eq_emod_of_nonneg (Int.natCast_nonneg _), ← Int.natCast_emod]
  have := fld_lt32 (w := w) (p := p) hn
  unfold fld at this ⊢
  congr 1
  omega
theorem i_rfits (k : Nat) (x : Int) (n : Nat) (hx : -2147483648 ≤ x ∧ x < 2147483648) (h1 : 1 ≤ n) (hn : n ≤ 32) (hk : 40 ≤ k) : gaolerref01_Fits.f k x (n : Int) = some (fits x n) := by
  unfold gaolerref01_Fits.f
  have hb : 2 ^ (n - 1) ≤ 2 ^ 31 := Nat.pow_le_pow_right (by decide) (by omega)
  rw [w64_int ((n : Int) - 1) (by omega) (by omega), show ((n : Int) - 1) = ((n - 1 : Nat) : Int) by omega, i_pow k (n - 1) (by omega) (by omega), Option.bind_some]
  unfold fits
  generalize 2 ^ (n - 1) = q at *
  rw [w64_int x (by omega) (by omega), w64_int (q : Int) (by omega) (by omega), w64_int (-(q : Int)) (by omega) (by omega)]
  by_cases g : x ≥ -(q : Int)
  · rw [if_pos g, decide_eq_true (show -(q : Int) ≤ x from g), Bool.true_and]
  · rw [if_neg g, decide_eq_false (show ¬ -(q : Int) ≤ x from g), Bool.false_and]
/-! ### Instructions -/
/-- An instruction: opcode, register numbers, immediate. -/
structure In where
  op : Int
  rd : Int
  ra : Int
  rb : Int
  imm : Int
deriving DecidableEq
/-- Its value in memory. -/
def In.v (i : In) : Value := .agg #[.int .i64 i.op, .int .i64 i.rd, .int .i64 i.ra, .int .i64 i.rb, .int .i32 i.imm]
def fml : List Int := [0,1,1,1,1,1,1,1,1,2,3,2,2,2,2,2,2,2,3,2,4,5,6,4,4,7]
def ptl : List Bool := [false,false,false,false,false, true,true,true,false,false, true,true,false,true,false, true,false,false,true,false, false,false,false,false,false, true,false,false,false,true, false,true,false,false,true, false,true,false,false,false]
/-- An opcode's format. -/
def fmt (op : Int) : Int := if 0 ≤ op ∧ op < 26 then fml.getD op.toNat 0 else 0
/-- Does a format have the field? (rd, ra, rb, imm, csr) -/
def hasF (f : Int) (j : Nat) : Bool := ptl.getD (5 * f.toNat + j) false
def rg (n : Int) (has : Bool) : Bool := n == 0 || (has && (decide (0 < n) && decide (n < 16)))
/-- The number of an instruction of format f. -/
def numOk (f imm : Int) : Bool := imm == 0 || ((hasF f 3 && fits imm 18) || (hasF f 4 && (decide (0 < imm) && decide (imm < 12))))
def vld (i : In) : Bool := !(fmt i.op == 0) && (numOk (fmt i.op) i.imm && (rg i.rd (hasF (fmt i.op) 0) && (rg i.ra (hasF (fmt i.op) 1) && rg i.rb (hasF (fmt i.op) 2))))
theorem fmt_cases (op : Int) : fmt op = 0 ∨ fmt op = 1 ∨ fmt op = 2 ∨ fmt op = 3 ∨ fmt op = 4 ∨ fmt op = 5 ∨ fmt op = 6 ∨ fmt op = 7 := by
  unfold fmt
  split
  · rename_i h
    have : ∀ i, i < 26 → (fml.getD i 0 = 0 ∨ fml.getD i 0 = 1 ∨ fml.getD i 0 = 2 ∨ fml.getD i 0 = 3 ∨ fml.getD i 0 = 4 ∨ fml.getD i 0 = 5 ∨ fml.getD i 0 = 6 ∨ fml.getD i 0 = 7) := by decide
    exact this _ (by omega)
  · exact .inl rfl
theorem fmt_pos {op : Int} (h : fmt op ≠ 0) : 0 < op ∧ op < 26 := by
  unfold fmt at h
  split at h
  · rename_i hc
    refine ⟨?_, hc.2⟩
    rcases Int.lt_or_lt_of_ne (a := op) (b := 0) (fun e => by subst e; exact h rfl) with g | g
    · omega
    · exact g
  · exact absurd rfl h
theorem i_register (n : Int) (b : Bool) : isa_register.f n b = some (rg n b) := by
  unfold isa_register.f rg
  by_cases h : n = 0
  · rw [if_pos h, h]; rfl
  · rw [if_neg h, beq_eq_false_iff_ne.2 h]
    cases b with
    | false => simp
    | true =>
      by_cases h2 : n > 0
      · rw [if_pos rfl, if_pos h2, decide_eq_true (show 0 < n from h2)]; rfl
      · rw [if_pos rfl, if_neg h2, decide_eq_false (show ¬ 0 < n from h2)]; rfl
/-- The word of a valid instruction. -/
def encW (i : In) : Nat := i.op.toNat * 67108864 + i.rd.toNat * 4194304 + i.ra.toNat * 262144 + (wd i.imm % 262144 + i.rb.toNat)
/-- The instruction of a word's fields. -/
def decI (w : Nat) : In :=
  if fmt ((w / 67108864 : Nat) : Int) = 1 then ⟨((w / 67108864 : Nat) : Int), ((w / 4194304 % 16 : Nat) : Int), ((w / 262144 % 16 : Nat) : Int), ((w % 16 : Nat) : Int), 0⟩
  else ⟨((w / 67108864 : Nat) : Int), ((w / 4194304 % 16 : Nat) : Int), ((w / 262144 % 16 : Nat) : Int), 0, sgn w 18⟩
/-- A word decodes. -/
def decOk (w : Nat) : Bool := vld (decI w) && (encW (decI w) == w)
def nilI : In := ⟨0, 0, 0, 0, 0⟩
def decR (w : Nat) : In := if decOk w = true then decI w else nilI

theorem rg_bound {n : Int} {b : Bool} (h : rg n b = true) : 0 ≤ n ∧ n < 16 := by
  unfold rg at h
  simp at h
  omega
theorem rg_no {n : Int} (h : rg n false = true) : n = 0 := by simpa [rg] using h
theorem vld_parts {i : In} (h : vld i = true) : fmt i.op ≠ 0 ∧ numOk (fmt i.op) i.imm = true ∧ rg i.rd (hasF (fmt i.op) 0) = true ∧ rg i.ra (hasF (fmt i.op) 1) = true ∧ rg i.rb (hasF (fmt i.op) 2) = true := by
  unfold vld at h
  simpa [Bool.and_eq_true] using h
theorem wd_zero : wd 0 = 0 := by decide
/-- Of the immediate and rb one is naught. -/
theorem imm_or_rb {i : In} (h : vld i = true) : i.imm = 0 ∨ i.rb = 0 := by
  obtain ⟨h0, h1, _, _, h4⟩ := vld_parts h
  rcases fmt_cases i.op with e | e | e | e | e | e | e | e <;> rw [e] at h0 h1 h4
  · exact absurd rfl h0
  · left; simpa [numOk, hasF, ptl] using h1
  all_goals (right; exact rg_no h4)
/-- The bounds of a valid instruction's fields. -/
theorem vld_bounds {i : In} (h : vld i = true) : 0 < i.op ∧ i.op < 26 ∧ 0 ≤ i.rd ∧ i.rd < 16 ∧ 0 ≤ i.ra ∧ i.ra < 16 ∧ 0 ≤ i.rb ∧ i.rb < 16 := by
  obtain ⟨h0, _, h2, h3, h4⟩ := vld_parts h
  have := fmt_pos h0
  have := rg_bound h2
  have := rg_bound h3
  have := rg_bound h4
  omega
theorem lowrb_lt {i : In} (h : vld i = true) : wd i.imm % 262144 + i.rb.toNat < 262144 := by
  have := vld_bounds h
  rcases imm_or_rb h with e | e
  · rw [e, wd_zero]; omega
  · rw [e]; omega
theorem encW_lt {i : In} (h : vld i = true) : encW i < 2 ^ 32 := by
  have := vld_bounds h
  have := lowrb_lt h
  unfold encW; omega
/-- 'Encode' as it is computed. -/
theorem enc_eq {i : In} (h : vld i = true) :
    ins (ins (ins (wd i.imm % 2 ^ 18 ||| i.rb.toNat) 26 6 i.op.toNat) 22 4 i.rd.toNat) 18 4 i.ra.toNat = encW i := by
  have hb := vld_bounds h
  have hl := lowrb_lt h
  have e : (wd i.imm % 2 ^ 18 ||| i.rb.toNat) = wd i.imm % 262144 + i.rb.toNat := by
    rcases imm_or_rb h with e | e
    · rw [e, wd_zero]; simp
    · rw [e]; simp
  rw [e]
  unfold encW
  generalize wd i.imm % 262144 + i.rb.toNat = x at *
  generalize hop : i.op.toNat = op at *
  generalize hrd : i.rd.toNat = rd at *
  generalize hra : i.ra.toNat = ra at *
  have b1 : op < 26 := by omega
  have b2 : rd < 16 := by omega
  have b3 : ra < 16 := by omega
  have s1 : ins x 26 6 op = op * 67108864 + x := by unfold ins; omega
  rw [s1]
  have s2 : ins (op * 67108864 + x) 22 4 rd = op * 67108864 + rd * 4194304 + x := by unfold ins; omega
  rw [s2]
  unfold ins; omega
end Go.Proofs.YtihnglgknncgpaaGreatDoor.Isa
