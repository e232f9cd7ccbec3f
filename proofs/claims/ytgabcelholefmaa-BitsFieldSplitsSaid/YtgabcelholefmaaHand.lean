/- The two laws of package bits that the print does not take are walked by hand: a field is its two parts; copying a word bit by bit gives the word. For every word, field, cut and permutation. -/
import Derived.Test.YtgabcelholefmaaPBitsInsertThenExtractx1
import Derived.Test.YtgabcelholefmaaPureBitsInsertThenExtract
import Derived.Lib.Hide
namespace Go.Proofs.Ytgabcelholefmaa.Hand
open Go.RowKit Go.Proofs.Ytgabcelholefmaa.PBitsInsertThenExtract Go.Proofs.YtgabcelholefmaaW.PrintWords Go.Proofs.YtgabcelholefmaaW.PrintLast Go.Proofs.YtgabcelholefmaaW.PrintMore Go.Proofs.Ytgabcelholefmaa.Bm Go.Proofs.Ytgabcelholefmaa.Pure

theorem c_extract (w p n : Nat) (P N : Int) (hP : P = p) (hN : N = n) (hw : w < 2 ^ 32) (hp : p ≤ 32) (hn : n ≤ 32) (r : Nat) (hr : fld w p n = r) (W : World) :
    Calls Try.prog 10 #[.int .u32 (w : Int), .int .i64 P, .int .i64 N] W fun e w' => e = .returned (.int .u32 (r : Int)) ∧ Drawn0 W w' := by
  subst hP hN hr; exact bits_Extract.calls _ _ _ _ _ (i_extract w p n hw hp hn)
theorem c_insert (w p n v : Nat) (P N : Int) (hP : P = p) (hN : N = n) (hw : w < 2 ^ 32) (hv : v < 2 ^ 32) (hp : p + n ≤ 32) (r : Nat) (hr : ins w p n v = r) (W : World) :
    Calls Try.prog 12 #[.int .u32 (w : Int), .int .i64 P, .int .i64 N, .int .u32 (v : Int)] W fun e w' => e = .returned (.int .u32 (r : Int)) ∧ Drawn0 W w' := by
  subst hP hN hr; exact bits_Insert.calls _ _ _ _ _ _ (i_insert w p n v hw hv hp)
/-- A field is its lower k bits and its upper n - k bits. -/
theorem fld_split {w p n k : Nat} (hk : k ≤ n) : ins (fld w p k) k (n - k) (fld w (p + k) (n - k)) = fld w p n :=
  Nat.eq_of_testBit_eq fun i => by
    rw [ins_bit, fld_bit, fld_bit, fld_bit]
    by_cases h : i < k
    · rw [if_pos h, decide_eq_true h, decide_eq_true (by omega)]
    · rw [if_neg h]
      by_cases h2 : i < n
      · rw [if_pos (by omega), decide_eq_true (by omega), decide_eq_true h2, show p + k + (i - k) = p + i by omega]
      · rw [if_neg (by omega), decide_eq_false h, decide_eq_false h2]
theorem ins_split {u w p n k : Nat} (hk : k ≤ n) : ins (ins u p k (fld w p k)) (p + k) (n - k) (fld w (p + k) (n - k)) = ins u p n (fld w p n) :=
  Nat.eq_of_testBit_eq fun i => by
    rw [ins_bit, ins_bit, ins_bit, fld_bit, fld_bit, fld_bit]
    by_cases h : i < p
    · rw [if_pos (by omega), if_pos h, if_pos h]
    · rw [if_neg h, if_neg h]
      by_cases h2 : i < p + k
      · rw [if_pos h2, if_pos h2, if_pos (by omega), decide_eq_true (by omega), decide_eq_true (by omega)]
      · rw [if_neg h2]
        by_cases h3 : i < p + n
        · rw [if_pos (by omega), if_pos h3, decide_eq_true (by omega), decide_eq_true (by omega), show p + k + (i - (p + k)) = p + (i - p) by omega]
        · rw [if_neg (by omega), if_neg h3, if_neg (by omega)]
theorem ins_whole {u w : Nat} (hu : u < 2 ^ 32) (hw : w < 2 ^ 32) : ins u 0 32 w = w :=
  eq_of_bits (ins_lt hu (by omega)) hw fun i hi => by rw [ins_bit, if_neg (by omega), if_pos (by omega), Nat.sub_zero]
set_option maxHeartbeats 400000 in
set_option maxRecDepth 100000 in
theorem split_walk (w u a b c : Nat) (hw : w < 2 ^ 32) (hu : u < 2 ^ 32) (ha : a < 256) (hb : b < 256) (hc : c < 256) (W : World) :
    Calls Try.prog 6 #[.int .u32 (w : Int), .int .u32 (u : Int), .int .u8 (a : Int), .int .u8 (b : Int), .int .u8 (c : Int)] W fun e w' => e = .returned (.bool true) ∧ Drawn0 W w' := by
  obtain ⟨p, n, g1, g2, hpl⟩ := i_place a b ha hb
  have Hpl := Lib.hid hpl; clear hpl
  have hn0 : ((n : Int) == 0) = false := beq_eq_false_iff_ne.mpr (by omega)
  obtain ⟨k, hk⟩ : ∃ k : Nat, k = c % n := ⟨_, rfl⟩
  have hkn : k < n := by rw [hk]; exact Nat.mod_lt _ (by omega)
  have ek : (c : Int) % (n : Int) = (k : Int) := by rw [hk]; exact (Int.natCast_emod _ _).symm
  have hf32 : fld w p n < 2 ^ 32 := fld_lt32 (by omega)
  have hi32 : ins u p n (fld w p n) < 2 ^ 32 := ins_lt hu g2
  clear hk
  by_cases hk0 : k = 0
  · subst hk0
    go_enter Try.func6, Try.ntmps6
    go_wp2_with fail
    refine (gaolerlaw01_awake.calls true _ i_awake).mono ?_
    rintro e w' ⟨rfl, ⟨nd, rfl⟩⟩
    go_wp2_with fail
    refine (gaolerref01_Place.calls _ _ _ _ _ Hpl.out).mono ?_
    rintro e w' ⟨rfl, ⟨nd1, rfl⟩⟩
    go_wp2_with fail
    refine (c_extract w p n _ _ rfl rfl hw (by omega) (by omega) _ rfl _).mono ?_
    rintro e w' ⟨rfl, ⟨nd2, rfl⟩⟩
    go_wp2_with fail
    refine (c_insert u p n _ _ _ rfl rfl hu hf32 g2 _ rfl _).mono ?_
    rintro e w' ⟨rfl, ⟨nd3, rfl⟩⟩
    go_wp2_with fail
    refine (c_insert _ 0 32 w _ _ rfl rfl hi32 hw (by omega) w (ins_whole hi32 hw) _).mono ?_
    rintro e w' ⟨rfl, ⟨nd4, rfl⟩⟩
    go_wp2_with fail
    go_ret
    exact ⟨by simp, by repeat (first | exact Drawn0.refl _ | apply Drawn0.step)⟩
  · have hlow32 : fld w p k < 2 ^ 32 := fld_lt32 (by omega)
    have hhigh32 : fld w (p + k) (n - k) < 2 ^ 32 := fld_lt32 (by omega)
    have hil32 : ins u p k (fld w p k) < 2 ^ 32 := ins_lt hu (by omega)
    have hk1 : ((k : Int) == 0) = false := beq_eq_false_iff_ne.mpr (by omega)
    go_enter Try.func6, Try.ntmps6
    go_wp2_with fail
    refine (gaolerlaw01_awake.calls true _ i_awake).mono ?_
    rintro e w' ⟨rfl, ⟨nd, rfl⟩⟩
    go_wp2_with fail
    refine (gaolerref01_Place.calls _ _ _ _ _ Hpl.out).mono ?_
    rintro e w' ⟨rfl, ⟨nd1, rfl⟩⟩
    go_wp2_with fail
    refine (c_extract w p n _ _ rfl rfl hw (by omega) (by omega) _ rfl _).mono ?_
    rintro e w' ⟨rfl, ⟨nd2, rfl⟩⟩
    go_wp2_with fail
    refine (c_insert u p n _ _ _ rfl rfl hu hf32 g2 _ rfl _).mono ?_
    rintro e w' ⟨rfl, ⟨nd3, rfl⟩⟩
    go_wp2_with fail
    refine (c_insert _ 0 32 w _ _ rfl rfl hi32 hw (by omega) w (ins_whole hi32 hw) _).mono ?_
    rintro e w' ⟨rfl, ⟨nd4, rfl⟩⟩
    go_wp2_with fail
    refine (c_extract w p k _ _ rfl rfl hw (by omega) (by omega) _ rfl _).mono ?_
    rintro e w' ⟨rfl, ⟨nd5, rfl⟩⟩
    go_wp2_with fail
    refine (c_extract w (p + k) (n - k) _ _ (by omega) (by omega) hw (by omega) (by omega) _ rfl _).mono ?_
    rintro e w' ⟨rfl, ⟨nd6, rfl⟩⟩
    go_wp2_with fail
    refine (c_extract w p n _ _ rfl rfl hw (by omega) (by omega) _ rfl _).mono ?_
    rintro e w' ⟨rfl, ⟨nd7, rfl⟩⟩
    go_wp2_with fail
    refine (c_insert _ k (n - k) _ _ _ rfl (by omega) hlow32 hhigh32 (by omega) _ (fld_split (by omega)) _).mono ?_
    rintro e w' ⟨rfl, ⟨nd8, rfl⟩⟩
    go_wp2_with fail
    refine (c_extract w p n _ _ rfl rfl hw (by omega) (by omega) _ rfl _).mono ?_
    rintro e w' ⟨rfl, ⟨nd9, rfl⟩⟩
    go_wp2_with fail
    refine (c_insert u p n _ _ _ rfl rfl hu hf32 g2 _ rfl _).mono ?_
    rintro e w' ⟨rfl, ⟨nd10, rfl⟩⟩
    go_wp2_with fail
    refine (c_insert u p k _ _ _ rfl rfl hu hlow32 (by omega) _ rfl _).mono ?_
    rintro e w' ⟨rfl, ⟨nd11, rfl⟩⟩
    go_wp2_with fail
    refine (c_insert _ (p + k) (n - k) _ _ _ (by omega) (by omega) hil32 hhigh32 (by omega) _ (ins_split (by omega)) _).mono ?_
    rintro e w' ⟨rfl, ⟨nd12, rfl⟩⟩
    go_wp2_with fail
    go_ret
    exact ⟨by simp, by repeat (first | exact Drawn0.refl _ | apply Drawn0.step)⟩

theorem c_sign (v n : Nat) (N : Int) (hN : N = n) (h1 : 1 ≤ n) (hn : n ≤ 32) (r : Int) (hr : sgn v n = r) (W : World) :
    Calls Try.prog 14 #[.int .u32 (v : Int), .int .i64 N] W fun e w' => e = .returned (.int .i32 r) ∧ Drawn0 W w' := by
  subst hN hr; exact bits_SignExtend.calls _ _ _ _ (i_sign v n h1 hn)
theorem c_lowbits (x : Int) (n : Nat) (N : Int) (hN : N = n) (hn : n ≤ 32) (r : Nat) (hr : wd x % 2 ^ n = r) (W : World) :
    Calls Try.prog 18 #[.int .i32 x, .int .i64 N] W fun e w' => e = .returned (.int .u32 (r : Int)) ∧ Drawn0 W w' := by
  subst hN hr; exact bits_LowBits.calls _ _ _ _ (i_lowbits x n hn)
/-- The word after i bits have been copied. -/
def cop (w u t : Nat) : Nat → Nat
  | 0 => u
  | i + 1 => ins (cop w u t i) ((i * 7 + t) % 32) 1 (fld w ((i * 7 + t) % 32) 1)
theorem cop_lt {w u t : Nat} (hu : u < 2 ^ 32) : ∀ i, cop w u t i < 2 ^ 32
  | 0 => hu
  | i + 1 => ins_lt (cop_lt hu i) (by omega)
theorem cop_bit {w u t j : Nat} (hj : j < 32) : ∀ i, (∃ m, m < i ∧ (m * 7 + t) % 32 = j) → (cop w u t i).testBit j = w.testBit j
  | 0, h => by obtain ⟨m, hm, _⟩ := h; omega
  | i + 1, h => by
    unfold cop
    rw [ins_bit]
    by_cases e : (i * 7 + t) % 32 = j
    · rw [if_neg (by omega), if_pos (by omega), fld_bit, decide_eq_true (by omega), Bool.true_and]; congr 1; omega
    · have ih := cop_bit (w := w) (u := u) (t := t) hj i (by
        obtain ⟨m, hm, hmj⟩ := h
        exact ⟨m, by rcases Nat.lt_or_ge m i with g | g
                     · exact g
                     · exact absurd (show m = i by omega) (fun e' => e (e' ▸ hmj)), hmj⟩)
      by_cases g : j < (i * 7 + t) % 32
      · rw [if_pos g]; exact ih
      · rw [if_neg g, if_neg (by omega)]; exact ih
theorem cop_all {w u t : Nat} (hw : w < 2 ^ 32) (hu : u < 2 ^ 32) : cop w u t 32 = w :=
  eq_of_bits (cop_lt hu 32) hw fun j hj => cop_bit hj 32 ⟨(23 * (j + 32 * t - t)) % 32, by omega, by omega⟩
theorem sgn_all (w : Nat) (hw : w < 2 ^ 32) : sgn w 32 = wrap32 (w : Int) := by
  unfold sgn wrap32
  rw [Nat.mod_eq_of_lt hw]
  split <;> omega
theorem wd_all (w : Nat) (hw : w < 2 ^ 32) : wd (wrap32 (w : Int)) % 2 ^ 32 = w := by
  unfold wd wrap32; omega
theorem fld_all (w : Nat) (hw : w < 2 ^ 32) : fld w 0 32 = w := by unfold fld; omega
set_option maxHeartbeats 400000 in
set_option maxRecDepth 100000 in
theorem word_walk (w u t : Nat) (hw : w < 2 ^ 32) (hu : u < 2 ^ 32) (ht : t < 256) (W : World) :
    Calls Try.prog 7 #[.int .u32 (w : Int), .int .u32 (u : Int), .int .u8 (t : Int)] W fun e w' => e = .returned (.bool true) ∧ Drawn0 W w' := by
  go_enter Try.func7, Try.ntmps7
  go_wp2_with fail
  refine (gaolerlaw01_awake.calls true _ i_awake).mono ?_
  rintro e w' ⟨rfl, ⟨nd, rfl⟩⟩
  go_wp2_with fail
  go_loopw [7, 8] (fun a i wr => ∃ j : Nat, j ≤ 32 ∧ i = .int .i64 j ∧ a = .int .u32 (cop w u t j) ∧ Drawn0 W wr) (fun _ i _ => 32 - (intOf i).toNat)
  case atStart => exact ⟨0, by omega, rfl, rfl, by repeat (first | exact Drawn0.refl _ | apply Drawn0.step)⟩
  case round =>
    obtain ⟨j, hj, rfl, rfl, hd⟩ := hrel
    by_cases hlt : j < 32
    · have hc := cop_lt (w := w) (t := t) hu j
      have hp : (j * 7 + t) % 32 < 32 := Nat.mod_lt _ (by decide)
      go_wp2_with fail
      refine (c_extract w ((j * 7 + t) % 32) 1 _ _ (by omega) rfl hw (by omega) (by omega) _ rfl _).mono ?_
      rintro e w' ⟨rfl, ⟨nd2, rfl⟩⟩
      go_wp2_with fail
      refine (c_insert _ ((j * 7 + t) % 32) 1 _ _ _ (by omega) rfl hc (fld_lt32 (by omega)) (by omega) (cop w u t (j + 1)) rfl _).mono ?_
      rintro e w' ⟨rfl, ⟨nd3, rfl⟩⟩
      go_wp2_with fail
      go_roundw
      case rel => exact ⟨j + 1, by omega, by go_num, rfl, by repeat (first | exact hd | apply Drawn0.step)⟩
      case measure => simp [intOf]; omega
    · obtain rfl : j = 32 := by omega
      have hall := cop_all (w := w) (u := u) (t := t) hw hu
      rw [hall]
      clear hall
      have hl : fld w 0 16 < 65536 := fld_lt w 0 16
      have hh : fld w 16 16 < 65536 := fld_lt w 16 16
      have hs : ((fld w 16 16 : Nat) : Int) * 65536 + ((fld w 0 16 : Nat) : Int) = (w : Int) := by unfold fld; omega
      have hs1 : (((fld w 16 16 : Nat) : Int) * 65536 + ((fld w 0 16 : Nat) : Int) == (w : Int)) = true := beq_iff_eq.2 hs
      have hs2 : ((((fld w 16 16 : Nat) : Int) * 65536 % 4294967296 + ((fld w 0 16 : Nat) : Int)) % 4294967296 == (w : Int)) = true := beq_iff_eq.2 (by omega)
      clear hs
      go_wp2_with fail
      refine (c_extract w 0 16 _ _ rfl rfl hw (by omega) (by omega) _ rfl _).mono ?_
      rintro e w' ⟨rfl, ⟨nd2, rfl⟩⟩
      go_wp2_with fail
      refine (c_extract w 16 16 _ _ rfl rfl hw (by omega) (by omega) _ rfl _).mono ?_
      rintro e w' ⟨rfl, ⟨nd3, rfl⟩⟩
      go_wp2_with fail
      refine (c_extract w 0 32 _ _ rfl rfl hw (by omega) (by omega) w (fld_all w hw) _).mono ?_
      rintro e w' ⟨rfl, ⟨nd4, rfl⟩⟩
      go_wp2_with fail
      refine (c_insert u 0 32 w _ _ rfl rfl hu hw (by omega) w (ins_whole hu hw) _).mono ?_
      rintro e w' ⟨rfl, ⟨nd5, rfl⟩⟩
      go_wp2_with fail
      refine (c_sign w 32 _ rfl (by omega) (by omega) _ (sgn_all w hw) _).mono ?_
      rintro e w' ⟨rfl, ⟨nd6, rfl⟩⟩
      go_wp2_with fail
      refine (c_lowbits _ 32 _ rfl (by omega) w (wd_all w hw) _).mono ?_
      rintro e w' ⟨rfl, ⟨nd7, rfl⟩⟩
      go_wp2_with fail
      go_ret
      exact ⟨by simp, by repeat (first | exact hd | apply Drawn0.step)⟩

theorem BitsFieldSplits_walk (a0 a1 a2 a3 a4 : Int) (W : World) (w0 : (Lit.int .u32 a0).wf = true) (w1 : (Lit.int .u32 a1).wf = true) (w2 : (Lit.int .u8 a2).wf = true) (w3 : (Lit.int .u8 a3).wf = true) (w4 : (Lit.int .u8 a4).wf = true) :
    Calls Try.prog 6 #[.int .u32 a0, .int .u32 a1, .int .u8 a2, .int .u8 a3, .int .u8 a4] W fun e w' => e = .returned (.bool true) ∧ Below W.heap.size W w' := by
  obtain ⟨w, hw, rfl⟩ := wf_u32 w0
  obtain ⟨u, hu, rfl⟩ := wf_u32 w1
  obtain ⟨a, ha, rfl⟩ := wf_u8 w2
  obtain ⟨b, hb, rfl⟩ := wf_u8 w3
  obtain ⟨c, hc, rfl⟩ := wf_u8 w4
  exact (split_walk w u a b c hw hu ha hb hc W).mono fun e w' ⟨he, hd⟩ => ⟨he, hd.below⟩
theorem BitsWordFromBits_walk (a0 a1 a2 : Int) (W : World) (w0 : (Lit.int .u32 a0).wf = true) (w1 : (Lit.int .u32 a1).wf = true) (w2 : (Lit.int .u8 a2).wf = true) :
    Calls Try.prog 7 #[.int .u32 a0, .int .u32 a1, .int .u8 a2] W fun e w' => e = .returned (.bool true) ∧ Below W.heap.size W w' := by
  obtain ⟨w, hw, rfl⟩ := wf_u32 w0
  obtain ⟨u, hu, rfl⟩ := wf_u32 w1
  obtain ⟨t, ht, rfl⟩ := wf_u8 w2
  exact (word_walk w u t hw hu ht W).mono fun e w' ⟨he, hd⟩ => ⟨he, hd.below⟩
end Go.Proofs.Ytgabcelholefmaa.Hand
