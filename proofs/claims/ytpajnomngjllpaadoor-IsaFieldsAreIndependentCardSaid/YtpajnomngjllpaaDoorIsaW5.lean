/- The reference's Sign, Low, Encode and Decode, walked: they answer as the plain functions sgn, wd, encW, decR and decOk say. -/
import Derived.Test.YtpajnomngjllpaaDoorIsaW4
namespace Go.Proofs.YtpajnomngjllpaaDoor.Isa
open Go Go.RowKit Go.Proofs.YtpajnomngjllpaaDoor.PIsaUnusedBitsMustBeZero Go.Proofs.YtpajnomngjllpaaDoorW.PrintWords Go.Proofs.YtpajnomngjllpaaDoorW.PrintLast Go.Proofs.YtpajnomngjllpaaDoorW.PrintMore Go.Proofs.YtpajnomngjllpaaDoor.Bm
set_option linter.unusedVariables false
set_option linter.unusedSimpArgs false
theorem pow_at (n : Nat) (r : Int) (N : Int) (hN : N = n) (w : World) (hn : n < 49) (hr : ((2 ^ n : Nat) : Int) = r) : Calls Tryd.prog 31 #[.int .i64 N] w fun e w' => e = .returned (.int .u64 r) ∧ ∃ n, w' = w.drewN n := by
  subst hN hr; exact (gaolerref01_Pow.calls 50 _ _ _ (i_pow 50 n (by omega) (by omega))).mono fun _ _ ⟨he, hd⟩ => ⟨he, hd.out⟩
theorem field_at (x p n r : Nat) (P N : Int) (hP : P = p) (hN : N = n) (w : World) (hx : x < 2 ^ 32) (hp : p ≤ 32) (hn : n ≤ 32) (hr : fld x p n = r) :
    Calls Tryd.prog 20 #[.int .u32 (x : Int), .int .i64 P, .int .i64 N] w fun e w' => e = .returned (.int .u32 (r : Int)) ∧ ∃ n, w' = w.drewN n := by
  subst hP hN hr; exact (gaolerref01_Field.calls 50 _ _ _ _ _ (i_field 50 x p n hx hp hn (by omega) (by omega))).mono fun _ _ ⟨he, hd⟩ => ⟨he, hd.out⟩
set_option maxRecDepth 100000 in
theorem rsign_at (x : Nat) (w : World) (hx : x < 2 ^ 32) : Calls Tryd.prog 26 #[.int .u32 (x : Int), .int .i64 18] w fun e w' => e = .returned (.int .i32 (sgn x 18)) ∧ ∃ n, w' = w.drewN n := by
  obtain ⟨y, hy⟩ : ∃ y, fld x 0 18 = y := ⟨_, rfl⟩
  have ly : y < 262144 := by rw [← hy]; exact fld_lt _ _ _
  have C1 := Lib.hid (fun w => field_at x 0 18 y 0 18 rfl rfl w hx (by omega) (by omega) hy)
  have hs : sgn x 18 = if y < 131072 then (y : Int) else (y : Int) - 262144 := by
    rw [fld_zero] at hy
    unfold sgn
    rw [hy]; rfl
  rw [hs]
  clear hs hy hx
  by_cases hlt : y < 131072
  · rw [if_pos hlt]
    have h1 : (y : Int) < 131072 := by omega
    have hb : decide ((y : Int) ≥ 131072) = false := decide_eq_false (by omega)
    have hb2 : decide ((131072 : Int) ≤ (y : Int)) = false := decide_eq_false (by omega)
    have h2 : (0 : Int) ≤ (y : Int) := by omega
    clear hlt ly
    go_enter Tryd.func26, Tryd.ntmps26
    go_wp2_with fail
    refine (C1.out _).mono ?_
    rintro e w' ⟨rfl, ⟨n1, rfl⟩⟩
    go_wp2_with fail
    refine (pow_at 17 131072 _ rfl _ (by omega) rfl).mono ?_
    rintro e w' ⟨rfl, ⟨n2, rfl⟩⟩
    go_wp2_with fail
    go_ret
    exact ⟨rfl, _, rfl⟩
  · rw [if_neg hlt]
    have h1 : (131072 : Int) ≤ (y : Int) := by omega
    have h2 : (y : Int) < 262144 := by omega
    clear hlt ly
    go_enter Tryd.func26, Tryd.ntmps26
    go_wp2_with fail
    refine (C1.out _).mono ?_
    rintro e w' ⟨rfl, ⟨n1, rfl⟩⟩
    go_wp2_with fail
    refine (pow_at 17 131072 _ rfl _ (by omega) rfl).mono ?_
    rintro e w' ⟨rfl, ⟨n2, rfl⟩⟩
    go_wp2_with fail
    refine (pow_at 18 262144 _ rfl _ (by omega) rfl).mono ?_
    rintro e w' ⟨rfl, ⟨n3, rfl⟩⟩
    go_wp2_with fail
    go_ret
    exact ⟨rfl, _, rfl⟩
set_option maxRecDepth 100000 in
theorem rlow_at (x : Int) (r : Nat) (w : World) (hx : small x) (hr : wd x % 2 ^ 18 = r) : Calls Tryd.prog 23 #[.int .i32 x, .int .i64 18] w fun e w' => e = .returned (.int .u32 (r : Int)) ∧ ∃ n, w' = w.drewN n := by
  have hw := wd_cast x
  have hl := wd_lt x
  obtain ⟨h1, h2⟩ := hx
  obtain ⟨y, hy⟩ : ∃ y, wd x = y := ⟨_, rfl⟩
  rw [hy] at hr hw hl
  clear hy
  by_cases hlt : x < 0
  · obtain rfl : x = (y : Int) - 4294967296 := by omega
    clear hw
    go_enter Tryd.func23, Tryd.ntmps23
    go_wp2_with fail
    refine (pow_at 18 262144 _ rfl _ (by omega) rfl).mono ?_
    rintro e w' ⟨rfl, ⟨n2, rfl⟩⟩
    go_wp2_with fail
    go_ret
    exact ⟨congrArg (fun z => Ending.returned (Value.int .u32 z)) (by show (y : Int) % 262144 = _; omega), _, rfl⟩
  · obtain rfl : x = (y : Int) := by omega
    clear hw
    go_enter Tryd.func23, Tryd.ntmps23
    go_wp2_with fail
    refine (pow_at 18 262144 _ rfl _ (by omega) rfl).mono ?_
    rintro e w' ⟨rfl, ⟨n2, rfl⟩⟩
    go_wp2_with fail
    go_ret
    exact ⟨congrArg (fun z => Ending.returned (Value.int .u32 z)) (by show (y : Int) % 262144 = _; omega), _, rfl⟩
end Go.Proofs.YtpajnomngjllpaaDoor.Isa
