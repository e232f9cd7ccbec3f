-- PRINTED BY print.sh 35421559b90ae4d0a3588c463048766b98c2df88dd9212a6774a882060cdf62d: not written by this session
import Derived.Test.YtgabcelholefmaaPBitsInsertThenExtractx0
namespace Go.Proofs.Ytgabcelholefmaa.PBitsInsertThenExtract
open Go.RowKit Go.Proofs.YtgabcelholefmaaW.PrintWords Go.Proofs.YtgabcelholefmaaW.PrintLast Go.Proofs.YtgabcelholefmaaW.PrintMore
attribute [local go_sem] max2_int min2_int max_two min_two max_three min_three max_four min_four   -- for this text's walks alone
set_option linter.unusedVariables false
set_option linter.unusedSimpArgs false

/-! ### bits_low_uint64: function 20 -/
def bits_low_uint64.f (a0 : Int) (a1 : Int) : Option (Int) := if 0 ≤ (IntKind.u64.wrap (a1)) then (some (Go.bits .and .u64 a0 (IntKind.u64.wrap ((shl .u64 1 (IntKind.u64.wrap (a1))) - 1)))) else (none)
set_option maxHeartbeats 8000000 in
set_option maxRecDepth 100000 in
theorem bits_low_uint64.calls (a0 : Int) (a1 : Int) (r : Int) (w : World) (h : bits_low_uint64.f a0 a1 = some r) :
    Calls Try.prog 20 #[.int .u64 a0, .int .i64 a1] w fun e w' => e = .returned (.int .u64 r) ∧ Drawn0 w w' := by
  have H : (if 0 ≤ (IntKind.u64.wrap (a1)) then (some (Go.bits .and .u64 a0 (IntKind.u64.wrap ((shl .u64 1 (IntKind.u64.wrap (a1))) - 1)))) else (none)) = some r := h
  clear h
  obtain ⟨ji3, hji3⟩ : ∃ j_ : Int, (IntKind.u64.wrap (a1)) = j_ := ⟨_, rfl⟩
  replace H : (if 0 ≤ (ji3) then (some (Go.bits .and .u64 a0 (IntKind.u64.wrap ((shl .u64 1 (ji3)) - 1)))) else (none)) = some r := by first | (rw [hji3] at H; exact H) | (simp only [hji3] at H ⊢; exact H)
  by_cases c4 : 0 ≤ (ji3)
  · rw [if_pos c4] at H
    have c4b0 := eq_true c4
    have c4b1 : decide (0 ≤ (ji3)) = true := decide_eq_true c4
    clear c4
    obtain ⟨ji5, hji5⟩ : ∃ j_ : Int, (shl .u64 1 (ji3)) = j_ := ⟨_, rfl⟩
    replace H : (some (Go.bits .and .u64 a0 (IntKind.u64.wrap ((ji5) - 1)))) = some r := by first | (rw [hji5] at H; exact H) | (simp only [hji5] at H ⊢; exact H)
    have hji5_ : (IntKind.u64.wrap (1 * 2 ^ min (ji3).toNat 64)) = ji5 := hji5
    have hji5z : (ji3) ≤ 64 → (IntKind.u64.wrap (1 * 2 ^ (ji3).toNat)) = ji5 := shl_small hji5
    have hji5u : (IntKind.u64.wrap (2 ^ min (ji3).toNat 64)) = ji5 := by have h_ := hji5_; rw [Int.one_mul] at h_; exact h_
    have hji5v : (ji3) ≤ 64 → (IntKind.u64.wrap (2 ^ (ji3).toNat)) = ji5 := fun hle_ => by have h_ := hji5z hle_; rw [Int.one_mul] at h_; exact h_
    obtain rfl := Option.some.inj H
    go_enter Try.func20, Try.ntmps20
    go_wp2
    go_ret
    exact ⟨by first | rfl | (simp; done) | (simp only [← hji3, ← hji5] <;> (first | rfl | simp)) | (simp [*]; done), by repeat (first | exact Drawn0.refl _ | apply Drawn0.step)⟩
  · rw [if_neg c4] at H
    exact absurd H (by simp)

/-! ### bits_Extract: function 10 -/
def bits_Extract.f (a0 : Int) (a1 : Int) (a2 : Int) : Option (Int) := if 0 ≤ (IntKind.u64.wrap (a1)) then ((bits_low_uint64.f (shr .u64 (IntKind.u64.wrap (a0)) (IntKind.u64.wrap (a1))) a2).bind fun t101 => (some ((t101) % 4294967296))) else (none)
set_option maxHeartbeats 8000000 in
set_option maxRecDepth 100000 in
theorem bits_Extract.calls (a0 : Int) (a1 : Int) (a2 : Int) (r : Int) (w : World) (h : bits_Extract.f a0 a1 a2 = some r) :
    Calls Try.prog 10 #[.int .u32 a0, .int .i64 a1, .int .i64 a2] w fun e w' => e = .returned (.int .u32 r) ∧ Drawn0 w w' := by
  have H : (if 0 ≤ (IntKind.u64.wrap (a1)) then ((bits_low_uint64.f (shr .u64 (IntKind.u64.wrap (a0)) (IntKind.u64.wrap (a1))) a2).bind fun t101 => (some ((t101) % 4294967296))) else (none)) = some r := h
  clear h
  obtain ⟨ji4, hji4⟩ : ∃ j_ : Int, (IntKind.u64.wrap (a1)) = j_ := ⟨_, rfl⟩
  replace H : (if 0 ≤ (ji4) then ((bits_low_uint64.f (shr .u64 (IntKind.u64.wrap (a0)) (ji4)) a2).bind fun t101 => (some ((t101) % 4294967296))) else (none)) = some r := by first | (rw [hji4] at H; exact H) | (simp only [hji4] at H ⊢; exact H)
  by_cases c5 : 0 ≤ (ji4)
  · rw [if_pos c5] at H
    have c5b0 := eq_true c5
    have c5b1 : decide (0 ≤ (ji4)) = true := decide_eq_true c5
    clear c5
    obtain ⟨ji6, hji6⟩ : ∃ j_ : Int, (shr .u64 (IntKind.u64.wrap (a0)) (ji4)) = j_ := ⟨_, rfl⟩
    replace H : ((bits_low_uint64.f (ji6) a2).bind fun t101 => (some ((t101) % 4294967296))) = some r := by first | (rw [hji6] at H; exact H) | (simp only [hji6] at H ⊢; exact H)
    have hji6_ : ((IntKind.u64.wrap (a0)) / 2 ^ min (ji4).toNat 64) = ji6 := hji6
    have hji6z : (ji4) ≤ 64 → ((IntKind.u64.wrap (a0)) / 2 ^ (ji4).toNat) = ji6 := shr_small hji6
    replace H := Option.bind_eq_some_iff.mp H
    obtain ⟨t101, A70, H⟩ := H
    replace H : (some ((t101) % 4294967296)) = some r := H
    have A7 := Aside0.mk A70
    clear A70
    obtain rfl := Option.some.inj H
    go_enter Try.func10, Try.ntmps10
    go_wp2_with (first | ((with_reducible refine gate_callee (f := 20) rfl ?_); refine goesL_ (some 13) rfl rfl Try.func20 (by kernel_rfl) rfl #[.int .u64 ji6, .int .i64 a2] rfl (by (try simp only [List.map_toArray, List.map_cons, List.map_nil]); first | done | (simp only [hji6]; rfl) | rfl | (simp only [List.length_drop, List.length_take]; rfl)) ?_; (with_reducible refine (bits_low_uint64.calls ji6 a2 t101 _ A7.out).mono ?_); rintro e w' ⟨rfl, ⟨nd, rfl⟩⟩; refine ⟨_, rfl, ?_⟩))
    go_ret
    exact ⟨by first | rfl | (simp; done) | (simp only [← hji4, ← hji6] <;> (first | rfl | simp)) | (simp [*]; done), by repeat (first | exact Drawn0.refl _ | apply Drawn0.step)⟩
  · rw [if_neg c5] at H
    exact absurd H (by simp)

/-! ### bits_Insert: function 12 -/
def bits_Insert.f (a0 : Int) (a1 : Int) (a2 : Int) (a3 : Int) : Option (Int) := (bits_low_uint64.f 18446744073709551615 a2).bind fun t102 => (if 0 ≤ (IntKind.u64.wrap (a1)) then ((bits_low_uint64.f (IntKind.u64.wrap (a3)) a2).bind fun t103 => (some (Go.bits .or .u32 (Go.bits .andNot .u32 a0 (shl .u32 ((t102) % 4294967296) (IntKind.u64.wrap (a1)))) (shl .u32 ((t103) % 4294967296) (IntKind.u64.wrap (a1)))))) else (none))
set_option maxHeartbeats 8000000 in
set_option maxRecDepth 100000 in
theorem bits_Insert.calls (a0 : Int) (a1 : Int) (a2 : Int) (a3 : Int) (r : Int) (w : World) (h : bits_Insert.f a0 a1 a2 a3 = some r) :
    Calls Try.prog 12 #[.int .u32 a0, .int .i64 a1, .int .i64 a2, .int .u32 a3] w fun e w' => e = .returned (.int .u32 r) ∧ Drawn0 w w' := by
  have H : ((bits_low_uint64.f 18446744073709551615 a2).bind fun t102 => (if 0 ≤ (IntKind.u64.wrap (a1)) then ((bits_low_uint64.f (IntKind.u64.wrap (a3)) a2).bind fun t103 => (some (Go.bits .or .u32 (Go.bits .andNot .u32 a0 (shl .u32 ((t102) % 4294967296) (IntKind.u64.wrap (a1)))) (shl .u32 ((t103) % 4294967296) (IntKind.u64.wrap (a1)))))) else (none))) = some r := h
  clear h
  replace H := Option.bind_eq_some_iff.mp H
  obtain ⟨t102, A50, H⟩ := H
  replace H : (if 0 ≤ (IntKind.u64.wrap (a1)) then ((bits_low_uint64.f (IntKind.u64.wrap (a3)) a2).bind fun t103 => (some (Go.bits .or .u32 (Go.bits .andNot .u32 a0 (shl .u32 ((t102) % 4294967296) (IntKind.u64.wrap (a1)))) (shl .u32 ((t103) % 4294967296) (IntKind.u64.wrap (a1)))))) else (none)) = some r := H
  have A5 := Aside0.mk A50
  clear A50
  obtain ⟨ji6, hji6⟩ : ∃ j_ : Int, (IntKind.u64.wrap (a1)) = j_ := ⟨_, rfl⟩
  replace H : (if 0 ≤ (ji6) then ((bits_low_uint64.f (IntKind.u64.wrap (a3)) a2).bind fun t103 => (some (Go.bits .or .u32 (Go.bits .andNot .u32 a0 (shl .u32 ((t102) % 4294967296) (ji6))) (shl .u32 ((t103) % 4294967296) (ji6))))) else (none)) = some r := by first | (rw [hji6] at H; exact H) | (simp only [hji6] at H ⊢; exact H)
  (try rw [hji6] at A5)
  by_cases c7 : 0 ≤ (ji6)
  · rw [if_pos c7] at H
    have c7b0 := eq_true c7
    have c7b1 : decide (0 ≤ (ji6)) = true := decide_eq_true c7
    clear c7
    obtain ⟨ji8, hji8⟩ : ∃ j_ : Int, (shl .u32 ((t102) % 4294967296) (ji6)) = j_ := ⟨_, rfl⟩
    replace H : ((bits_low_uint64.f (IntKind.u64.wrap (a3)) a2).bind fun t103 => (some (Go.bits .or .u32 (Go.bits .andNot .u32 a0 (ji8)) (shl .u32 ((t103) % 4294967296) (ji6))))) = some r := by first | (rw [hji8] at H; exact H) | (simp only [hji8] at H ⊢; exact H)
    (try rw [hji8] at A5)
    have hji8_ : (IntKind.u32.wrap (((t102) % 4294967296) * 2 ^ min (ji6).toNat 32)) = ji8 := hji8
    have hji8z : (ji6) ≤ 32 → (IntKind.u32.wrap (((t102) % 4294967296) * 2 ^ (ji6).toNat)) = ji8 := shl_small hji8
    replace H := Option.bind_eq_some_iff.mp H
    obtain ⟨t103, A90, H⟩ := H
    replace H : (some (Go.bits .or .u32 (Go.bits .andNot .u32 a0 (ji8)) (shl .u32 ((t103) % 4294967296) (ji6)))) = some r := H
    have A9 := Aside0.mk A90
    clear A90
    have c10b0 := eq_true (of_decide_eq_true (by first | (with_reducible assumption) | assumption) : 0 ≤ (ji6))
    obtain ⟨ji11, hji11⟩ : ∃ j_ : Int, (shl .u32 ((t103) % 4294967296) (ji6)) = j_ := ⟨_, rfl⟩
    replace H : (some (Go.bits .or .u32 (Go.bits .andNot .u32 a0 (ji8)) (ji11))) = some r := by first | (rw [hji11] at H; exact H) | (simp only [hji11] at H ⊢; exact H)
    (try rw [hji11] at A5)
    (try rw [hji11] at A9)
    have hji11_ : (IntKind.u32.wrap (((t103) % 4294967296) * 2 ^ min (ji6).toNat 32)) = ji11 := hji11
    have hji11z : (ji6) ≤ 32 → (IntKind.u32.wrap (((t103) % 4294967296) * 2 ^ (ji6).toNat)) = ji11 := shl_small hji11
    obtain rfl := Option.some.inj H
    go_enter Try.func12, Try.ntmps12
    go_wp2_with (first | ((with_reducible refine gate_callee (f := 20) rfl ?_); refine goesL_ (some 11) rfl rfl Try.func20 (by kernel_rfl) rfl #[.int .u64 18446744073709551615, .int .i64 a2] rfl (by (try simp only [List.map_toArray, List.map_cons, List.map_nil]); first | done | rfl | (simp only [List.length_drop, List.length_take]; rfl)) ?_; (with_reducible refine (bits_low_uint64.calls 18446744073709551615 a2 t102 _ A5.out).mono ?_); rintro e w' ⟨rfl, ⟨nd, rfl⟩⟩; refine ⟨_, rfl, ?_⟩) | ((with_reducible refine gate_callee (f := 20) rfl ?_); refine goesL_ (some 22) rfl rfl Try.func20 (by kernel_rfl) rfl #[.int .u64 (IntKind.u64.wrap (a3)), .int .i64 a2] rfl (by (try simp only [List.map_toArray, List.map_cons, List.map_nil]); first | done | rfl | (simp only [List.length_drop, List.length_take]; rfl)) ?_; (with_reducible refine (bits_low_uint64.calls (IntKind.u64.wrap (a3)) a2 t103 _ A9.out).mono ?_); rintro e w' ⟨rfl, ⟨nd, rfl⟩⟩; refine ⟨_, rfl, ?_⟩))
    go_ret
    exact ⟨by first | rfl | (simp; done) | (simp only [← hji6, ← hji8, ← hji11] <;> (first | rfl | simp)) | (simp [*]; done), by repeat (first | exact Drawn0.refl _ | apply Drawn0.step)⟩
  · rw [if_neg c7] at H
    exact absurd H (by simp)

/-! ### bits_SignExtend: function 14 -/
def bits_SignExtend.f (a0 : Int) (a1 : Int) : Option (Int) := if 0 ≤ (IntKind.u64.wrap (wrap64 (32 - a1))) then (some (shr .i32 (wrap32 (shl .u32 a0 (IntKind.u64.wrap (wrap64 (32 - a1))))) (IntKind.u64.wrap (wrap64 (32 - a1))))) else (none)
set_option maxHeartbeats 8000000 in
set_option maxRecDepth 100000 in
theorem bits_SignExtend.calls (a0 : Int) (a1 : Int) (r : Int) (w : World) (h : bits_SignExtend.f a0 a1 = some r) :
    Calls Try.prog 14 #[.int .u32 a0, .int .i64 a1] w fun e w' => e = .returned (.int .i32 r) ∧ Drawn0 w w' := by
  have H : (if 0 ≤ (IntKind.u64.wrap (wrap64 (32 - a1))) then (some (shr .i32 (wrap32 (shl .u32 a0 (IntKind.u64.wrap (wrap64 (32 - a1))))) (IntKind.u64.wrap (wrap64 (32 - a1))))) else (none)) = some r := h
  clear h
  obtain ⟨ji3, hji3⟩ : ∃ j_ : Int, (IntKind.u64.wrap (wrap64 (32 - a1))) = j_ := ⟨_, rfl⟩
  replace H : (if 0 ≤ (ji3) then (some (shr .i32 (wrap32 (shl .u32 a0 (ji3))) (ji3))) else (none)) = some r := by first | (rw [hji3] at H; exact H) | (simp only [hji3] at H ⊢; exact H)
  by_cases c4 : 0 ≤ (ji3)
  · rw [if_pos c4] at H
    have c4b0 := eq_true c4
    have c4b1 : decide (0 ≤ (ji3)) = true := decide_eq_true c4
    clear c4
    obtain ⟨ji5, hji5⟩ : ∃ j_ : Int, (shl .u32 a0 (ji3)) = j_ := ⟨_, rfl⟩
    replace H : (some (shr .i32 (wrap32 (ji5)) (ji3))) = some r := by first | (rw [hji5] at H; exact H) | (simp only [hji5] at H ⊢; exact H)
    have hji5_ : (IntKind.u32.wrap (a0 * 2 ^ min (ji3).toNat 32)) = ji5 := hji5
    have hji5z : (ji3) ≤ 32 → (IntKind.u32.wrap (a0 * 2 ^ (ji3).toNat)) = ji5 := shl_small hji5
    have c6b0 := eq_true (of_decide_eq_true (by first | (with_reducible assumption) | assumption) : 0 ≤ (ji3))
    obtain ⟨ji7, hji7⟩ : ∃ j_ : Int, (shr .i32 (wrap32 (ji5)) (ji3)) = j_ := ⟨_, rfl⟩
    replace H : (some ji7) = some r := by first | (rw [hji7] at H; exact H) | (simp only [hji7] at H ⊢; exact H)
    have hji7_ : ((wrap32 (ji5)) / 2 ^ min (ji3).toNat 32) = ji7 := hji7
    have hji7z : (ji3) ≤ 32 → ((wrap32 (ji5)) / 2 ^ (ji3).toNat) = ji7 := shr_small hji7
    obtain rfl := Option.some.inj H
    go_enter Try.func14, Try.ntmps14
    go_wp2
    go_ret
    exact ⟨by first | rfl | (simp; done) | (simp only [← hji3, ← hji5, ← hji7] <;> (first | rfl | simp)) | (simp [*]; done), by repeat (first | exact Drawn0.refl _ | apply Drawn0.step)⟩
  · rw [if_neg c4] at H
    exact absurd H (by simp)

/-! ### bits_FitsSigned: function 16 -/
def bits_FitsSigned.f (a0 : Int) (a1 : Int) : Option (Bool) := (bits_SignExtend.f ((a0) % 4294967296) a1).bind fun t104 => (some (t104 == a0))
set_option maxHeartbeats 8000000 in
set_option maxRecDepth 100000 in
theorem bits_FitsSigned.calls (a0 : Int) (a1 : Int) (r : Bool) (w : World) (h : bits_FitsSigned.f a0 a1 = some r) :
    Calls Try.prog 16 #[.int .i32 a0, .int .i64 a1] w fun e w' => e = .returned (.bool r) ∧ Drawn0 w w' := by
  have H : ((bits_SignExtend.f ((a0) % 4294967296) a1).bind fun t104 => (some (t104 == a0))) = some r := h
  clear h
  replace H := Option.bind_eq_some_iff.mp H
  obtain ⟨t104, A30, H⟩ := H
  replace H : (some (t104 == a0)) = some r := H
  have A3 := Aside0.mk A30
  clear A30
  obtain rfl := Option.some.inj H
  go_enter Try.func16, Try.ntmps16
  go_wp2_with (first | ((with_reducible refine gate_callee (f := 14) rfl ?_); refine goesL_ (some 8) rfl rfl Try.func14 (by kernel_rfl) rfl #[.int .u32 ((a0) % 4294967296), .int .i64 a1] rfl (by (try simp only [List.map_toArray, List.map_cons, List.map_nil]); first | done | rfl | (simp only [List.length_drop, List.length_take]; rfl)) ?_; (with_reducible refine (bits_SignExtend.calls ((a0) % 4294967296) a1 t104 _ A3.out).mono ?_); rintro e w' ⟨rfl, ⟨nd, rfl⟩⟩; refine ⟨_, rfl, ?_⟩))
  go_ret
  exact ⟨by first | rfl | (simp; done) | (simp [*]; done), by repeat (first | exact Drawn0.refl _ | apply Drawn0.step)⟩

/-! ### bits_LowBits: function 18 -/
def bits_LowBits.f (a0 : Int) (a1 : Int) : Option (Int) := (bits_Extract.f ((a0) % 4294967296) 0 a1).bind fun t105 => (some t105)
set_option maxHeartbeats 8000000 in
set_option maxRecDepth 100000 in
theorem bits_LowBits.calls (a0 : Int) (a1 : Int) (r : Int) (w : World) (h : bits_LowBits.f a0 a1 = some r) :
    Calls Try.prog 18 #[.int .i32 a0, .int .i64 a1] w fun e w' => e = .returned (.int .u32 r) ∧ Drawn0 w w' := by
  have H : ((bits_Extract.f ((a0) % 4294967296) 0 a1).bind fun t105 => (some t105)) = some r := h
  clear h
  replace H := Option.bind_eq_some_iff.mp H
  obtain ⟨t105, A30, H⟩ := H
  replace H : (some t105) = some r := H
  have A3 := Aside0.mk A30
  clear A30
  obtain rfl := Option.some.inj H
  go_enter Try.func18, Try.ntmps18
  go_wp2_with (first | ((with_reducible refine gate_callee (f := 10) rfl ?_); refine goesL_ (some 8) rfl rfl Try.func10 (by kernel_rfl) rfl #[.int .u32 ((a0) % 4294967296), .int .i64 0, .int .i64 a1] rfl (by (try simp only [List.map_toArray, List.map_cons, List.map_nil]); first | done | rfl | (simp only [List.length_drop, List.length_take]; rfl)) ?_; (with_reducible refine (bits_Extract.calls ((a0) % 4294967296) 0 a1 t105 _ A3.out).mono ?_); rintro e w' ⟨rfl, ⟨nd, rfl⟩⟩; refine ⟨_, rfl, ?_⟩))
  go_ret
  exact ⟨by first | rfl | (simp; done) | (simp [*]; done), by repeat (first | exact Drawn0.refl _ | apply Drawn0.step)⟩

/-! ### gaolerlaw01_awake: function 8 -/
def gaolerlaw01_awake.f  : Option (Bool) := (bits_Extract.f 2882343476 4 8).bind fun t106 => (if t106 = 35 then ((bits_Extract.f 4294967295 0 32).bind fun t107 => (if t107 = 4294967295 then ((bits_Insert.f 65535 4 8 261).bind fun t108 => (if t108 = 61535 then ((bits_Insert.f 1 0 32 7).bind fun t109 => (if t109 = 7 then ((bits_SignExtend.f 3 2).bind fun t110 => (if t110 = (-1) then ((bits_SignExtend.f 1 2).bind fun t111 => (if t111 = 1 then ((bits_SignExtend.f 2147483648 32).bind fun t112 => (if t112 = (-2147483648) then ((bits_FitsSigned.f (-2) 2).bind fun t113 => (if t113 = true then ((bits_FitsSigned.f 2 2).bind fun t114 => (if t114 = true then (some false) else ((bits_LowBits.f (-1) 18).bind fun t115 => (if t115 = 262143 then ((bits_LowBits.f 5 2).bind fun t116 => (some (t116 == 1))) else (some false))))) else (some false))) else (some false))) else (some false))) else (some false))) else (some false))) else (some false))) else (some false))) else (some false))
set_option maxHeartbeats 8000000 in
set_option maxRecDepth 100000 in
theorem gaolerlaw01_awake.calls  (r : Bool) (w : World) (h : gaolerlaw01_awake.f  = some r) :
    Calls Try.prog 8 #[] w fun e w' => e = .returned (.bool r) ∧ Drawn0 w w' := by
  have H : ((bits_Extract.f 2882343476 4 8).bind fun t106 => (if t106 = 35 then ((bits_Extract.f 4294967295 0 32).bind fun t107 => (if t107 = 4294967295 then ((bits_Insert.f 65535 4 8 261).bind fun t108 => (if t108 = 61535 then ((bits_Insert.f 1 0 32 7).bind fun t109 => (if t109 = 7 then ((bits_SignExtend.f 3 2).bind fun t110 => (if t110 = (-1) then ((bits_SignExtend.f 1 2).bind fun t111 => (if t111 = 1 then ((bits_SignExtend.f 2147483648 32).bind fun t112 => (if t112 = (-2147483648) then ((bits_FitsSigned.f (-2) 2).bind fun t113 => (if t113 = true then ((bits_FitsSigned.f 2 2).bind fun t114 => (if t114 = true then (some false) else ((bits_LowBits.f (-1) 18).bind fun t115 => (if t115 = 262143 then ((bits_LowBits.f 5 2).bind fun t116 => (some (t116 == 1))) else (some false))))) else (some false))) else (some false))) else (some false))) else (some false))) else (some false))) else (some false))) else (some false))) else (some false))) = some r := h
  clear h
  replace H := Option.bind_eq_some_iff.mp H
  obtain ⟨t106, A10, H⟩ := H
  replace H : (if t106 = 35 then ((bits_Extract.f 4294967295 0 32).bind fun t107 => (if t107 = 4294967295 then ((bits_Insert.f 65535 4 8 261).bind fun t108 => (if t108 = 61535 then ((bits_Insert.f 1 0 32 7).bind fun t109 => (if t109 = 7 then ((bits_SignExtend.f 3 2).bind fun t110 => (if t110 = (-1) then ((bits_SignExtend.f 1 2).bind fun t111 => (if t111 = 1 then ((bits_SignExtend.f 2147483648 32).bind fun t112 => (if t112 = (-2147483648) then ((bits_FitsSigned.f (-2) 2).bind fun t113 => (if t113 = true then ((bits_FitsSigned.f 2 2).bind fun t114 => (if t114 = true then (some false) else ((bits_LowBits.f (-1) 18).bind fun t115 => (if t115 = 262143 then ((bits_LowBits.f 5 2).bind fun t116 => (some (t116 == 1))) else (some false))))) else (some false))) else (some false))) else (some false))) else (some false))) else (some false))) else (some false))) else (some false))) else (some false)) = some r := H
  have A1 := Aside0.mk A10
  clear A10
  by_cases c2 : t106 = 35
  · rw [if_pos c2] at H
    have c2b0 : (t106 == 35) = true := beq_iff_eq.mpr c2
    have c2b1 : (t106 != 35) = false := bne_eq_false_iff_eq.mpr c2
    clear c2
    replace H := Option.bind_eq_some_iff.mp H
    obtain ⟨t107, A30, H⟩ := H
    replace H : (if t107 = 4294967295 then ((bits_Insert.f 65535 4 8 261).bind fun t108 => (if t108 = 61535 then ((bits_Insert.f 1 0 32 7).bind fun t109 => (if t109 = 7 then ((bits_SignExtend.f 3 2).bind fun t110 => (if t110 = (-1) then ((bits_SignExtend.f 1 2).bind fun t111 => (if t111 = 1 then ((bits_SignExtend.f 2147483648 32).bind fun t112 => (if t112 = (-2147483648) then ((bits_FitsSigned.f (-2) 2).bind fun t113 => (if t113 = true then ((bits_FitsSigned.f 2 2).bind fun t114 => (if t114 = true then (some false) else ((bits_LowBits.f (-1) 18).bind fun t115 => (if t115 = 262143 then ((bits_LowBits.f 5 2).bind fun t116 => (some (t116 == 1))) else (some false))))) else (some false))) else (some false))) else (some false))) else (some false))) else (some false))) else (some false))) else (some false)) = some r := H
    have A3 := Aside0.mk A30
    clear A30
    by_cases c4 : t107 = 4294967295
    · rw [if_pos c4] at H
      have c4b0 : (t107 == 4294967295) = true := beq_iff_eq.mpr c4
      have c4b1 : (t107 != 4294967295) = false := bne_eq_false_iff_eq.mpr c4
      clear c4
      replace H := Option.bind_eq_some_iff.mp H
      obtain ⟨t108, A50, H⟩ := H
      replace H : (if t108 = 61535 then ((bits_Insert.f 1 0 32 7).bind fun t109 => (if t109 = 7 then ((bits_SignExtend.f 3 2).bind fun t110 => (if t110 = (-1) then ((bits_SignExtend.f 1 2).bind fun t111 => (if t111 = 1 then ((bits_SignExtend.f 2147483648 32).bind fun t112 => (if t112 = (-2147483648) then ((bits_FitsSigned.f (-2) 2).bind fun t113 => (if t113 = true then ((bits_FitsSigned.f 2 2).bind fun t114 => (if t114 = true then (some false) else ((bits_LowBits.f (-1) 18).bind fun t115 => (if t115 = 262143 then ((bits_LowBits.f 5 2).bind fun t116 => (some (t116 == 1))) else (some false))))) else (some false))) else (some false))) else (some false))) else (some false))) else (some false))) else (some false)) = some r := H
      have A5 := Aside0.mk A50
      clear A50
      by_cases c6 : t108 = 61535
      · rw [if_pos c6] at H
        have c6b0 : (t108 == 61535) = true := beq_iff_eq.mpr c6
        have c6b1 : (t108 != 61535) = false := bne_eq_false_iff_eq.mpr c6
        clear c6
        replace H := Option.bind_eq_some_iff.mp H
        obtain ⟨t109, A70, H⟩ := H
        replace H : (if t109 = 7 then ((bits_SignExtend.f 3 2).bind fun t110 => (if t110 = (-1) then ((bits_SignExtend.f 1 2).bind fun t111 => (if t111 = 1 then ((bits_SignExtend.f 2147483648 32).bind fun t112 => (if t112 = (-2147483648) then ((bits_FitsSigned.f (-2) 2).bind fun t113 => (if t113 = true then ((bits_FitsSigned.f 2 2).bind fun t114 => (if t114 = true then (some false) else ((bits_LowBits.f (-1) 18).bind fun t115 => (if t115 = 262143 then ((bits_LowBits.f 5 2).bind fun t116 => (some (t116 == 1))) else (some false))))) else (some false))) else (some false))) else (some false))) else (some false))) else (some false)) = some r := H
        have A7 := Aside0.mk A70
        clear A70
        by_cases c8 : t109 = 7
        · rw [if_pos c8] at H
          have c8b0 : (t109 == 7) = true := beq_iff_eq.mpr c8
          have c8b1 : (t109 != 7) = false := bne_eq_false_iff_eq.mpr c8
          clear c8
          replace H := Option.bind_eq_some_iff.mp H
          obtain ⟨t110, A90, H⟩ := H
          replace H : (if t110 = (-1) then ((bits_SignExtend.f 1 2).bind fun t111 => (if t111 = 1 then ((bits_SignExtend.f 2147483648 32).bind fun t112 => (if t112 = (-2147483648) then ((bits_FitsSigned.f (-2) 2).bind fun t113 => (if t113 = true then ((bits_FitsSigned.f 2 2).bind fun t114 => (if t114 = true then (some false) else ((bits_LowBits.f (-1) 18).bind fun t115 => (if t115 = 262143 then ((bits_LowBits.f 5 2).bind fun t116 => (some (t116 == 1))) else (some false))))) else (some false))) else (some false))) else (some false))) else (some false)) = some r := H
          have A9 := Aside0.mk A90
          clear A90
          by_cases c10 : t110 = (-1)
          · rw [if_pos c10] at H
            have c10b0 : (t110 == (-1)) = true := beq_iff_eq.mpr c10
            have c10b1 : (t110 != (-1)) = false := bne_eq_false_iff_eq.mpr c10
            clear c10
            replace H := Option.bind_eq_some_iff.mp H
            obtain ⟨t111, A110, H⟩ := H
            replace H : (if t111 = 1 then ((bits_SignExtend.f 2147483648 32).bind fun t112 => (if t112 = (-2147483648) then ((bits_FitsSigned.f (-2) 2).bind fun t113 => (if t113 = true then ((bits_FitsSigned.f 2 2).bind fun t114 => (if t114 = true then (some false) else ((bits_LowBits.f (-1) 18).bind fun t115 => (if t115 = 262143 then ((bits_LowBits.f 5 2).bind fun t116 => (some (t116 == 1))) else (some false))))) else (some false))) else (some false))) else (some false)) = some r := H
            have A11 := Aside0.mk A110
            clear A110
            by_cases c12 : t111 = 1
            · rw [if_pos c12] at H
              have c12b0 : (t111 == 1) = true := beq_iff_eq.mpr c12
              have c12b1 : (t111 != 1) = false := bne_eq_false_iff_eq.mpr c12
              clear c12
              replace H := Option.bind_eq_some_iff.mp H
              obtain ⟨t112, A130, H⟩ := H
              replace H : (if t112 = (-2147483648) then ((bits_FitsSigned.f (-2) 2).bind fun t113 => (if t113 = true then ((bits_FitsSigned.f 2 2).bind fun t114 => (if t114 = true then (some false) else ((bits_LowBits.f (-1) 18).bind fun t115 => (if t115 = 262143 then ((bits_LowBits.f 5 2).bind fun t116 => (some (t116 == 1))) else (some false))))) else (some false))) else (some false)) = some r := H
              have A13 := Aside0.mk A130
              clear A130
              by_cases c14 : t112 = (-2147483648)
              · rw [if_pos c14] at H
                have c14b0 : (t112 == (-2147483648)) = true := beq_iff_eq.mpr c14
                have c14b1 : (t112 != (-2147483648)) = false := bne_eq_false_iff_eq.mpr c14
                clear c14
                replace H := Option.bind_eq_some_iff.mp H
                obtain ⟨t113, A150, H⟩ := H
                replace H : (if t113 = true then ((bits_FitsSigned.f 2 2).bind fun t114 => (if t114 = true then (some false) else ((bits_LowBits.f (-1) 18).bind fun t115 => (if t115 = 262143 then ((bits_LowBits.f 5 2).bind fun t116 => (some (t116 == 1))) else (some false))))) else (some false)) = some r := H
                have A15 := Aside0.mk A150
                clear A150
                by_cases c16 : t113 = true
                · subst c16
                  have H1 : ((bits_FitsSigned.f 2 2).bind fun t114 => (if t114 = true then (some false) else ((bits_LowBits.f (-1) 18).bind fun t115 => (if t115 = 262143 then ((bits_LowBits.f 5 2).bind fun t116 => (some (t116 == 1))) else (some false))))) = some r := by rw [if_pos rfl] at H; exact H
                  clear H
                  have H := H1
                  clear H1
                  replace H := Option.bind_eq_some_iff.mp H
                  obtain ⟨t114, A170, H⟩ := H
                  replace H : (if t114 = true then (some false) else ((bits_LowBits.f (-1) 18).bind fun t115 => (if t115 = 262143 then ((bits_LowBits.f 5 2).bind fun t116 => (some (t116 == 1))) else (some false)))) = some r := H
                  have A17 := Aside0.mk A170
                  clear A170
                  by_cases c18 : t114 = true
                  · subst c18
                    have H1 : (some false) = some r := by rw [if_pos rfl] at H; exact H
                    clear H
                    have H := H1
                    clear H1
                    obtain rfl := Option.some.inj H
                    go_enter Try.func8, Try.ntmps8
                    go_wp2_with (first | ((with_reducible refine gate_callee (f := 10) rfl ?_); refine goesL_ (some 1) rfl rfl Try.func10 (by kernel_rfl) rfl #[.int .u32 2882343476, .int .i64 4, .int .i64 8] rfl (by (try simp only [List.map_toArray, List.map_cons, List.map_nil]); first | done | rfl | (simp only [List.length_drop, List.length_take]; rfl)) ?_; (with_reducible refine (bits_Extract.calls 2882343476 4 8 t106 _ A1.out).mono ?_); rintro e w' ⟨rfl, ⟨nd, rfl⟩⟩; refine ⟨_, rfl, ?_⟩) | (go_at_call 10; (with_reducible refine (bits_Extract.calls 4294967295 0 32 t107 _ A3.out).mono ?_); rintro e w' ⟨rfl, ⟨nd, rfl⟩⟩) | (go_at_call 12; (with_reducible refine (bits_Insert.calls 65535 4 8 261 t108 _ A5.out).mono ?_); rintro e w' ⟨rfl, ⟨nd, rfl⟩⟩) | (go_at_call 12; (with_reducible refine (bits_Insert.calls 1 0 32 7 t109 _ A7.out).mono ?_); rintro e w' ⟨rfl, ⟨nd, rfl⟩⟩) | (go_at_call 14; (with_reducible refine (bits_SignExtend.calls 3 2 t110 _ A9.out).mono ?_); rintro e w' ⟨rfl, ⟨nd, rfl⟩⟩) | (go_at_call 14; (with_reducible refine (bits_SignExtend.calls 1 2 t111 _ A11.out).mono ?_); rintro e w' ⟨rfl, ⟨nd, rfl⟩⟩) | (go_at_call 14; (with_reducible refine (bits_SignExtend.calls 2147483648 32 t112 _ A13.out).mono ?_); rintro e w' ⟨rfl, ⟨nd, rfl⟩⟩) | (go_at_call 16; (with_reducible refine (bits_FitsSigned.calls (-2) 2 true _ A15.out).mono ?_); rintro e w' ⟨rfl, ⟨nd, rfl⟩⟩) | (go_at_call 16; (with_reducible refine (bits_FitsSigned.calls 2 2 true _ A17.out).mono ?_); rintro e w' ⟨rfl, ⟨nd, rfl⟩⟩))
                    go_ret
                    exact ⟨by first | rfl | (simp; done) | (simp [*]; done), by repeat (first | exact Drawn0.refl _ | apply Drawn0.step)⟩
                  · replace c18 := Bool.eq_false_iff.mpr c18
                    subst c18
                    have H1 : ((bits_LowBits.f (-1) 18).bind fun t115 => (if t115 = 262143 then ((bits_LowBits.f 5 2).bind fun t116 => (some (t116 == 1))) else (some false))) = some r := by rw [if_neg (show ¬ (false = true) by decide)] at H; exact H
                    clear H
                    have H := H1
                    clear H1
                    replace H := Option.bind_eq_some_iff.mp H
                    obtain ⟨t115, A190, H⟩ := H
                    replace H : (if t115 = 262143 then ((bits_LowBits.f 5 2).bind fun t116 => (some (t116 == 1))) else (some false)) = some r := H
                    have A19 := Aside0.mk A190
                    clear A190
                    by_cases c20 : t115 = 262143
                    · rw [if_pos c20] at H
                      have c20b0 : (t115 == 262143) = true := beq_iff_eq.mpr c20
                      have c20b1 : (t115 != 262143) = false := bne_eq_false_iff_eq.mpr c20
                      clear c20
                      replace H := Option.bind_eq_some_iff.mp H
                      obtain ⟨t116, A210, H⟩ := H
                      replace H : (some (t116 == 1)) = some r := H
                      have A21 := Aside0.mk A210
                      clear A210
                      obtain rfl := Option.some.inj H
                      go_enter Try.func8, Try.ntmps8
                      go_wp2_with (first | ((with_reducible refine gate_callee (f := 10) rfl ?_); refine goesL_ (some 1) rfl rfl Try.func10 (by kernel_rfl) rfl #[.int .u32 2882343476, .int .i64 4, .int .i64 8] rfl (by (try simp only [List.map_toArray, List.map_cons, List.map_nil]); first | done | rfl | (simp only [List.length_drop, List.length_take]; rfl)) ?_; (with_reducible refine (bits_Extract.calls 2882343476 4 8 t106 _ A1.out).mono ?_); rintro e w' ⟨rfl, ⟨nd, rfl⟩⟩; refine ⟨_, rfl, ?_⟩) | (go_at_call 10; (with_reducible refine (bits_Extract.calls 4294967295 0 32 t107 _ A3.out).mono ?_); rintro e w' ⟨rfl, ⟨nd, rfl⟩⟩) | (go_at_call 12; (with_reducible refine (bits_Insert.calls 65535 4 8 261 t108 _ A5.out).mono ?_); rintro e w' ⟨rfl, ⟨nd, rfl⟩⟩) | (go_at_call 12; (with_reducible refine (bits_Insert.calls 1 0 32 7 t109 _ A7.out).mono ?_); rintro e w' ⟨rfl, ⟨nd, rfl⟩⟩) | (go_at_call 14; (with_reducible refine (bits_SignExtend.calls 3 2 t110 _ A9.out).mono ?_); rintro e w' ⟨rfl, ⟨nd, rfl⟩⟩) | (go_at_call 14; (with_reducible refine (bits_SignExtend.calls 1 2 t111 _ A11.out).mono ?_); rintro e w' ⟨rfl, ⟨nd, rfl⟩⟩) | (go_at_call 14; (with_reducible refine (bits_SignExtend.calls 2147483648 32 t112 _ A13.out).mono ?_); rintro e w' ⟨rfl, ⟨nd, rfl⟩⟩) | (go_at_call 16; (with_reducible refine (bits_FitsSigned.calls (-2) 2 true _ A15.out).mono ?_); rintro e w' ⟨rfl, ⟨nd, rfl⟩⟩) | (go_at_call 16; (with_reducible refine (bits_FitsSigned.calls 2 2 false _ A17.out).mono ?_); rintro e w' ⟨rfl, ⟨nd, rfl⟩⟩) | (go_at_call 18; (with_reducible refine (bits_LowBits.calls (-1) 18 t115 _ A19.out).mono ?_); rintro e w' ⟨rfl, ⟨nd, rfl⟩⟩) | (go_at_call 18; (with_reducible refine (bits_LowBits.calls 5 2 t116 _ A21.out).mono ?_); rintro e w' ⟨rfl, ⟨nd, rfl⟩⟩))
                      go_ret
                      exact ⟨by first | rfl | (simp; done) | (simp [*]; done), by repeat (first | exact Drawn0.refl _ | apply Drawn0.step)⟩
                    · rw [if_neg c20] at H
                      have c20b0 : (t115 == 262143) = false := beq_eq_false_iff_ne.mpr c20
                      have c20b1 : (t115 != 262143) = true := bne_iff_ne.mpr c20
                      obtain rfl := Option.some.inj H
                      go_enter Try.func8, Try.ntmps8
                      go_wp2_with (first | ((with_reducible refine gate_callee (f := 10) rfl ?_); refine goesL_ (some 1) rfl rfl Try.func10 (by kernel_rfl) rfl #[.int .u32 2882343476, .int .i64 4, .int .i64 8] rfl (by (try simp only [List.map_toArray, List.map_cons, List.map_nil]); first | done | rfl | (simp only [List.length_drop, List.length_take]; rfl)) ?_; (with_reducible refine (bits_Extract.calls 2882343476 4 8 t106 _ A1.out).mono ?_); rintro e w' ⟨rfl, ⟨nd, rfl⟩⟩; refine ⟨_, rfl, ?_⟩) | (go_at_call 10; (with_reducible refine (bits_Extract.calls 4294967295 0 32 t107 _ A3.out).mono ?_); rintro e w' ⟨rfl, ⟨nd, rfl⟩⟩) | (go_at_call 12; (with_reducible refine (bits_Insert.calls 65535 4 8 261 t108 _ A5.out).mono ?_); rintro e w' ⟨rfl, ⟨nd, rfl⟩⟩) | (go_at_call 12; (with_reducible refine (bits_Insert.calls 1 0 32 7 t109 _ A7.out).mono ?_); rintro e w' ⟨rfl, ⟨nd, rfl⟩⟩) | (go_at_call 14; (with_reducible refine (bits_SignExtend.calls 3 2 t110 _ A9.out).mono ?_); rintro e w' ⟨rfl, ⟨nd, rfl⟩⟩) | (go_at_call 14; (with_reducible refine (bits_SignExtend.calls 1 2 t111 _ A11.out).mono ?_); rintro e w' ⟨rfl, ⟨nd, rfl⟩⟩) | (go_at_call 14; (with_reducible refine (bits_SignExtend.calls 2147483648 32 t112 _ A13.out).mono ?_); rintro e w' ⟨rfl, ⟨nd, rfl⟩⟩) | (go_at_call 16; (with_reducible refine (bits_FitsSigned.calls (-2) 2 true _ A15.out).mono ?_); rintro e w' ⟨rfl, ⟨nd, rfl⟩⟩) | (go_at_call 16; (with_reducible refine (bits_FitsSigned.calls 2 2 false _ A17.out).mono ?_); rintro e w' ⟨rfl, ⟨nd, rfl⟩⟩) | (go_at_call 18; (with_reducible refine (bits_LowBits.calls (-1) 18 t115 _ A19.out).mono ?_); rintro e w' ⟨rfl, ⟨nd, rfl⟩⟩))
                      go_ret
                      exact ⟨by first | rfl | (simp; done) | (simp [*]; done), by repeat (first | exact Drawn0.refl _ | apply Drawn0.step)⟩
                · replace c16 := Bool.eq_false_iff.mpr c16
                  subst c16
                  have H1 : (some false) = some r := by rw [if_neg (show ¬ (false = true) by decide)] at H; exact H
                  clear H
                  have H := H1
                  clear H1
                  obtain rfl := Option.some.inj H
                  go_enter Try.func8, Try.ntmps8
                  go_wp2_with (first | ((with_reducible refine gate_callee (f := 10) rfl ?_); refine goesL_ (some 1) rfl rfl Try.func10 (by kernel_rfl) rfl #[.int .u32 2882343476, .int .i64 4, .int .i64 8] rfl (by (try simp only [List.map_toArray, List.map_cons, List.map_nil]); first | done | rfl | (simp only [List.length_drop, List.length_take]; rfl)) ?_; (with_reducible refine (bits_Extract.calls 2882343476 4 8 t106 _ A1.out).mono ?_); rintro e w' ⟨rfl, ⟨nd, rfl⟩⟩; refine ⟨_, rfl, ?_⟩) | (go_at_call 10; (with_reducible refine (bits_Extract.calls 4294967295 0 32 t107 _ A3.out).mono ?_); rintro e w' ⟨rfl, ⟨nd, rfl⟩⟩) | (go_at_call 12; (with_reducible refine (bits_Insert.calls 65535 4 8 261 t108 _ A5.out).mono ?_); rintro e w' ⟨rfl, ⟨nd, rfl⟩⟩) | (go_at_call 12; (with_reducible refine (bits_Insert.calls 1 0 32 7 t109 _ A7.out).mono ?_); rintro e w' ⟨rfl, ⟨nd, rfl⟩⟩) | (go_at_call 14; (with_reducible refine (bits_SignExtend.calls 3 2 t110 _ A9.out).mono ?_); rintro e w' ⟨rfl, ⟨nd, rfl⟩⟩) | (go_at_call 14; (with_reducible refine (bits_SignExtend.calls 1 2 t111 _ A11.out).mono ?_); rintro e w' ⟨rfl, ⟨nd, rfl⟩⟩) | (go_at_call 14; (with_reducible refine (bits_SignExtend.calls 2147483648 32 t112 _ A13.out).mono ?_); rintro e w' ⟨rfl, ⟨nd, rfl⟩⟩) | (go_at_call 16; (with_reducible refine (bits_FitsSigned.calls (-2) 2 false _ A15.out).mono ?_); rintro e w' ⟨rfl, ⟨nd, rfl⟩⟩))
                  go_ret
                  exact ⟨by first | rfl | (simp; done) | (simp [*]; done), by repeat (first | exact Drawn0.refl _ | apply Drawn0.step)⟩
              · rw [if_neg c14] at H
                have c14b0 : (t112 == (-2147483648)) = false := beq_eq_false_iff_ne.mpr c14
                have c14b1 : (t112 != (-2147483648)) = true := bne_iff_ne.mpr c14
                obtain rfl := Option.some.inj H
                go_enter Try.func8, Try.ntmps8
                go_wp2_with (first | ((with_reducible refine gate_callee (f := 10) rfl ?_); refine goesL_ (some 1) rfl rfl Try.func10 (by kernel_rfl) rfl #[.int .u32 2882343476, .int .i64 4, .int .i64 8] rfl (by (try simp only [List.map_toArray, List.map_cons, List.map_nil]); first | done | rfl | (simp only [List.length_drop, List.length_take]; rfl)) ?_; (with_reducible refine (bits_Extract.calls 2882343476 4 8 t106 _ A1.out).mono ?_); rintro e w' ⟨rfl, ⟨nd, rfl⟩⟩; refine ⟨_, rfl, ?_⟩) | (go_at_call 10; (with_reducible refine (bits_Extract.calls 4294967295 0 32 t107 _ A3.out).mono ?_); rintro e w' ⟨rfl, ⟨nd, rfl⟩⟩) | (go_at_call 12; (with_reducible refine (bits_Insert.calls 65535 4 8 261 t108 _ A5.out).mono ?_); rintro e w' ⟨rfl, ⟨nd, rfl⟩⟩) | (go_at_call 12; (with_reducible refine (bits_Insert.calls 1 0 32 7 t109 _ A7.out).mono ?_); rintro e w' ⟨rfl, ⟨nd, rfl⟩⟩) | (go_at_call 14; (with_reducible refine (bits_SignExtend.calls 3 2 t110 _ A9.out).mono ?_); rintro e w' ⟨rfl, ⟨nd, rfl⟩⟩) | (go_at_call 14; (with_reducible refine (bits_SignExtend.calls 1 2 t111 _ A11.out).mono ?_); rintro e w' ⟨rfl, ⟨nd, rfl⟩⟩) | (go_at_call 14; (with_reducible refine (bits_SignExtend.calls 2147483648 32 t112 _ A13.out).mono ?_); rintro e w' ⟨rfl, ⟨nd, rfl⟩⟩))
                go_ret
                exact ⟨by first | rfl | (simp; done) | (simp [*]; done), by repeat (first | exact Drawn0.refl _ | apply Drawn0.step)⟩
            · rw [if_neg c12] at H
              have c12b0 : (t111 == 1) = false := beq_eq_false_iff_ne.mpr c12
              have c12b1 : (t111 != 1) = true := bne_iff_ne.mpr c12
              obtain rfl := Option.some.inj H
              go_enter Try.func8, Try.ntmps8
              go_wp2_with (first | ((with_reducible refine gate_callee (f := 10) rfl ?_); refine goesL_ (some 1) rfl rfl Try.func10 (by kernel_rfl) rfl #[.int .u32 2882343476, .int .i64 4, .int .i64 8] rfl (by (try simp only [List.map_toArray, List.map_cons, List.map_nil]); first | done | rfl | (simp only [List.length_drop, List.length_take]; rfl)) ?_; (with_reducible refine (bits_Extract.calls 2882343476 4 8 t106 _ A1.out).mono ?_); rintro e w' ⟨rfl, ⟨nd, rfl⟩⟩; refine ⟨_, rfl, ?_⟩) | (go_at_call 10; (with_reducible refine (bits_Extract.calls 4294967295 0 32 t107 _ A3.out).mono ?_); rintro e w' ⟨rfl, ⟨nd, rfl⟩⟩) | (go_at_call 12; (with_reducible refine (bits_Insert.calls 65535 4 8 261 t108 _ A5.out).mono ?_); rintro e w' ⟨rfl, ⟨nd, rfl⟩⟩) | (go_at_call 12; (with_reducible refine (bits_Insert.calls 1 0 32 7 t109 _ A7.out).mono ?_); rintro e w' ⟨rfl, ⟨nd, rfl⟩⟩) | (go_at_call 14; (with_reducible refine (bits_SignExtend.calls 3 2 t110 _ A9.out).mono ?_); rintro e w' ⟨rfl, ⟨nd, rfl⟩⟩) | (go_at_call 14; (with_reducible refine (bits_SignExtend.calls 1 2 t111 _ A11.out).mono ?_); rintro e w' ⟨rfl, ⟨nd, rfl⟩⟩))
              go_ret
              exact ⟨by first | rfl | (simp; done) | (simp [*]; done), by repeat (first | exact Drawn0.refl _ | apply Drawn0.step)⟩
          · rw [if_neg c10] at H
            have c10b0 : (t110 == (-1)) = false := beq_eq_false_iff_ne.mpr c10
            have c10b1 : (t110 != (-1)) = true := bne_iff_ne.mpr c10
            obtain rfl := Option.some.inj H
            go_enter Try.func8, Try.ntmps8
            go_wp2_with (first | ((with_reducible refine gate_callee (f := 10) rfl ?_); refine goesL_ (some 1) rfl rfl Try.func10 (by kernel_rfl) rfl #[.int .u32 2882343476, .int .i64 4, .int .i64 8] rfl (by (try simp only [List.map_toArray, List.map_cons, List.map_nil]); first | done | rfl | (simp only [List.length_drop, List.length_take]; rfl)) ?_; (with_reducible refine (bits_Extract.calls 2882343476 4 8 t106 _ A1.out).mono ?_); rintro e w' ⟨rfl, ⟨nd, rfl⟩⟩; refine ⟨_, rfl, ?_⟩) | (go_at_call 10; (with_reducible refine (bits_Extract.calls 4294967295 0 32 t107 _ A3.out).mono ?_); rintro e w' ⟨rfl, ⟨nd, rfl⟩⟩) | (go_at_call 12; (with_reducible refine (bits_Insert.calls 65535 4 8 261 t108 _ A5.out).mono ?_); rintro e w' ⟨rfl, ⟨nd, rfl⟩⟩) | (go_at_call 12; (with_reducible refine (bits_Insert.calls 1 0 32 7 t109 _ A7.out).mono ?_); rintro e w' ⟨rfl, ⟨nd, rfl⟩⟩) | (go_at_call 14; (with_reducible refine (bits_SignExtend.calls 3 2 t110 _ A9.out).mono ?_); rintro e w' ⟨rfl, ⟨nd, rfl⟩⟩))
            go_ret
            exact ⟨by first | rfl | (simp; done) | (simp [*]; done), by repeat (first | exact Drawn0.refl _ | apply Drawn0.step)⟩
        · rw [if_neg c8] at H
          have c8b0 : (t109 == 7) = false := beq_eq_false_iff_ne.mpr c8
          have c8b1 : (t109 != 7) = true := bne_iff_ne.mpr c8
          obtain rfl := Option.some.inj H
          go_enter Try.func8, Try.ntmps8
          go_wp2_with (first | ((with_reducible refine gate_callee (f := 10) rfl ?_); refine goesL_ (some 1) rfl rfl Try.func10 (by kernel_rfl) rfl #[.int .u32 2882343476, .int .i64 4, .int .i64 8] rfl (by (try simp only [List.map_toArray, List.map_cons, List.map_nil]); first | done | rfl | (simp only [List.length_drop, List.length_take]; rfl)) ?_; (with_reducible refine (bits_Extract.calls 2882343476 4 8 t106 _ A1.out).mono ?_); rintro e w' ⟨rfl, ⟨nd, rfl⟩⟩; refine ⟨_, rfl, ?_⟩) | (go_at_call 10; (with_reducible refine (bits_Extract.calls 4294967295 0 32 t107 _ A3.out).mono ?_); rintro e w' ⟨rfl, ⟨nd, rfl⟩⟩) | (go_at_call 12; (with_reducible refine (bits_Insert.calls 65535 4 8 261 t108 _ A5.out).mono ?_); rintro e w' ⟨rfl, ⟨nd, rfl⟩⟩) | (go_at_call 12; (with_reducible refine (bits_Insert.calls 1 0 32 7 t109 _ A7.out).mono ?_); rintro e w' ⟨rfl, ⟨nd, rfl⟩⟩))
          go_ret
          exact ⟨by first | rfl | (simp; done) | (simp [*]; done), by repeat (first | exact Drawn0.refl _ | apply Drawn0.step)⟩
      · rw [if_neg c6] at H
        have c6b0 : (t108 == 61535) = false := beq_eq_false_iff_ne.mpr c6
        have c6b1 : (t108 != 61535) = true := bne_iff_ne.mpr c6
        obtain rfl := Option.some.inj H
        go_enter Try.func8, Try.ntmps8
        go_wp2_with (first | ((with_reducible refine gate_callee (f := 10) rfl ?_); refine goesL_ (some 1) rfl rfl Try.func10 (by kernel_rfl) rfl #[.int .u32 2882343476, .int .i64 4, .int .i64 8] rfl (by (try simp only [List.map_toArray, List.map_cons, List.map_nil]); first | done | rfl | (simp only [List.length_drop, List.length_take]; rfl)) ?_; (with_reducible refine (bits_Extract.calls 2882343476 4 8 t106 _ A1.out).mono ?_); rintro e w' ⟨rfl, ⟨nd, rfl⟩⟩; refine ⟨_, rfl, ?_⟩) | (go_at_call 10; (with_reducible refine (bits_Extract.calls 4294967295 0 32 t107 _ A3.out).mono ?_); rintro e w' ⟨rfl, ⟨nd, rfl⟩⟩) | (go_at_call 12; (with_reducible refine (bits_Insert.calls 65535 4 8 261 t108 _ A5.out).mono ?_); rintro e w' ⟨rfl, ⟨nd, rfl⟩⟩))
        go_ret
        exact ⟨by first | rfl | (simp; done) | (simp [*]; done), by repeat (first | exact Drawn0.refl _ | apply Drawn0.step)⟩
    · rw [if_neg c4] at H
      have c4b0 : (t107 == 4294967295) = false := beq_eq_false_iff_ne.mpr c4
      have c4b1 : (t107 != 4294967295) = true := bne_iff_ne.mpr c4
      obtain rfl := Option.some.inj H
      go_enter Try.func8, Try.ntmps8
      go_wp2_with (first | ((with_reducible refine gate_callee (f := 10) rfl ?_); refine goesL_ (some 1) rfl rfl Try.func10 (by kernel_rfl) rfl #[.int .u32 2882343476, .int .i64 4, .int .i64 8] rfl (by (try simp only [List.map_toArray, List.map_cons, List.map_nil]); first | done | rfl | (simp only [List.length_drop, List.length_take]; rfl)) ?_; (with_reducible refine (bits_Extract.calls 2882343476 4 8 t106 _ A1.out).mono ?_); rintro e w' ⟨rfl, ⟨nd, rfl⟩⟩; refine ⟨_, rfl, ?_⟩) | (go_at_call 10; (with_reducible refine (bits_Extract.calls 4294967295 0 32 t107 _ A3.out).mono ?_); rintro e w' ⟨rfl, ⟨nd, rfl⟩⟩))
      go_ret
      exact ⟨by first | rfl | (simp; done) | (simp [*]; done), by repeat (first | exact Drawn0.refl _ | apply Drawn0.step)⟩
  · rw [if_neg c2] at H
    have c2b0 : (t106 == 35) = false := beq_eq_false_iff_ne.mpr c2
    have c2b1 : (t106 != 35) = true := bne_iff_ne.mpr c2
    obtain rfl := Option.some.inj H
    go_enter Try.func8, Try.ntmps8
    go_wp2_with (first | ((with_reducible refine gate_callee (f := 10) rfl ?_); refine goesL_ (some 1) rfl rfl Try.func10 (by kernel_rfl) rfl #[.int .u32 2882343476, .int .i64 4, .int .i64 8] rfl (by (try simp only [List.map_toArray, List.map_cons, List.map_nil]); first | done | rfl | (simp only [List.length_drop, List.length_take]; rfl)) ?_; (with_reducible refine (bits_Extract.calls 2882343476 4 8 t106 _ A1.out).mono ?_); rintro e w' ⟨rfl, ⟨nd, rfl⟩⟩; refine ⟨_, rfl, ?_⟩))
    go_ret
    exact ⟨by first | rfl | (simp; done) | (simp [*]; done), by repeat (first | exact Drawn0.refl _ | apply Drawn0.step)⟩

/-! ### gaolerref01_Place: function 9 -/
def gaolerref01_Place.f (a0 : Int) (a1 : Int) : Option (Int × Int) := if (wrap64 (33 - (wrap64 (1 + (wrap64 (Int.tmod a0 32)))))) = 0 then (none) else (some (Int.tmod (wrap64 (a1)) (wrap64 (33 - (wrap64 (1 + (wrap64 (Int.tmod a0 32)))))), wrap64 (1 + (wrap64 (Int.tmod a0 32)))))
set_option maxHeartbeats 8000000 in
set_option maxRecDepth 100000 in
theorem gaolerref01_Place.calls (a0 : Int) (a1 : Int) (r1 : Int) (r2 : Int) (w : World) (h : gaolerref01_Place.f a0 a1 = some (r1, r2)) :
    Calls Try.prog 9 #[.int .u8 a0, .int .u8 a1] w fun e w' => e = .returned (.tuple #[.int .i64 r1, .int .i64 r2]) ∧ Drawn0 w w' := by
  have H : (if (wrap64 (33 - (wrap64 (1 + (wrap64 (Int.tmod a0 32)))))) = 0 then (none) else (some (Int.tmod (wrap64 (a1)) (wrap64 (33 - (wrap64 (1 + (wrap64 (Int.tmod a0 32)))))), wrap64 (1 + (wrap64 (Int.tmod a0 32)))))) = some (r1, r2) := h
  clear h
  by_cases c3 : (wrap64 (33 - (wrap64 (1 + (wrap64 (Int.tmod a0 32)))))) = 0
  · rw [if_pos c3] at H
    exact absurd H (by simp)
  · rw [if_neg c3] at H
    have c3b0 : ((wrap64 (33 - (wrap64 (1 + (wrap64 (Int.tmod a0 32)))))) == 0) = false := beq_eq_false_iff_ne.mpr c3
    have c3b1 : ((wrap64 (33 - (wrap64 (1 + (wrap64 (Int.tmod a0 32)))))) != 0) = true := bne_iff_ne.mpr c3
    simp only [Option.some.injEq, Prod.mk.injEq] at H
    obtain ⟨rfl, rfl⟩ := H
    go_enter Try.func9, Try.ntmps9
    go_wp2
    go_ret2
    exact ⟨by first | rfl | (simp; done) | (simp [*]; done), by repeat (first | exact Drawn0.refl _ | apply Drawn0.step)⟩

/-! ### gaolerlaw01_BitsInsertThenExtract: function 4 -/
mutual
def gaolerlaw01_BitsInsertThenExtract.j0 : Nat → Int → Int → Int → Int → Int → Int → Int → Int → Bool → Option (Bool)
  | 0, _, _, _, _, _, _, _, _, _ => none
  | k + 1, x0, x1, x2, x15, x16, x17, x18, x19, x71 => if x71 = true then (some false) else (if (wrap64 (x15 + x16)) ≤ x17 then (gaolerlaw01_BitsInsertThenExtract.j1 k x0 x1 x2 x15 x16 x17 x18 x19 true) else (gaolerlaw01_BitsInsertThenExtract.j1 k x0 x1 x2 x15 x16 x17 x18 x19 (decide ((wrap64 (x17 + x18)) ≤ x15))))
def gaolerlaw01_BitsInsertThenExtract.j1 : Nat → Int → Int → Int → Int → Int → Int → Int → Int → Bool → Option (Bool)
  | 0, _, _, _, _, _, _, _, _, _ => none
  | k + 1, x0, x1, x2, x15, x16, x17, x18, x19, x83 => if x83 = true then ((bits_Extract.f x19 x17 x18).bind fun t129 => ((bits_Extract.f x0 x17 x18).bind fun t130 => (if t129 = t130 then ((bits_Insert.f x0 x17 x18 x2).bind fun t131 => ((bits_Insert.f t131 x15 x16 x1).bind fun t132 => ((bits_Insert.f x19 x17 x18 x2).bind fun t133 => (some (t132 == t133))))) else (some false)))) else (some true)
end
def gaolerlaw01_BitsInsertThenExtract.f (k : Nat) (a0 : Int) (a1 : Int) (a2 : Int) (a3 : Int) (a4 : Int) (a5 : Int) (a6 : Int) : Option (Bool) := (gaolerlaw01_awake.f).bind fun t117 => (if t117 = true then ((gaolerref01_Place.f a3 a4).bind fun bt118 => ((gaolerref01_Place.f a5 a6).bind fun bt120 => ((bits_Insert.f a0 bt118.1 bt118.2 a1).bind fun t122 => ((bits_Extract.f t122 bt118.1 bt118.2).bind fun t123 => ((bits_Extract.f a1 0 bt118.2).bind fun t124 => (if t123 = t124 then ((bits_Extract.f a0 bt118.1 bt118.2).bind fun t125 => ((bits_Insert.f t122 bt118.1 bt118.2 t125).bind fun t126 => (if t126 = a0 then ((bits_Insert.f t122 bt118.1 bt118.2 a2).bind fun t127 => ((bits_Insert.f a0 bt118.1 bt118.2 a2).bind fun t128 => (gaolerlaw01_BitsInsertThenExtract.j0 k a0 a1 a2 bt118.1 bt118.2 bt120.1 bt120.2 t122 (t127 != t128)))) else (gaolerlaw01_BitsInsertThenExtract.j0 k a0 a1 a2 bt118.1 bt118.2 bt120.1 bt120.2 t122 true)))) else (gaolerlaw01_BitsInsertThenExtract.j0 k a0 a1 a2 bt118.1 bt118.2 bt120.1 bt120.2 t122 true))))))) else (some false))
theorem gaolerlaw01_BitsInsertThenExtract.mono_l : ∀ k, (∀ y0 y1 y2 y3 y4 y5 y6 y7 y8, LeO (gaolerlaw01_BitsInsertThenExtract.j0 k y0 y1 y2 y3 y4 y5 y6 y7 y8) (gaolerlaw01_BitsInsertThenExtract.j0 (k + 1) y0 y1 y2 y3 y4 y5 y6 y7 y8)) ∧ (∀ y0 y1 y2 y3 y4 y5 y6 y7 y8, LeO (gaolerlaw01_BitsInsertThenExtract.j1 k y0 y1 y2 y3 y4 y5 y6 y7 y8) (gaolerlaw01_BitsInsertThenExtract.j1 (k + 1) y0 y1 y2 y3 y4 y5 y6 y7 y8))
  | 0 => ⟨fun _ _ _ _ _ _ _ _ _ r h => by simp [gaolerlaw01_BitsInsertThenExtract.j0] at h, fun _ _ _ _ _ _ _ _ _ r h => by simp [gaolerlaw01_BitsInsertThenExtract.j1] at h⟩
  | k + 1 => by
    obtain ⟨ih0, ih1⟩ := gaolerlaw01_BitsInsertThenExtract.mono_l k
    refine ⟨?_, ?_⟩
    · intro y0 y1 y2 y3 y4 y5 y6 y7 y8
      unfold gaolerlaw01_BitsInsertThenExtract.j0
      repeat' first
      | (with_reducible exact ih0 _ _ _ _ _ _ _ _ _)
      | (with_reducible exact ih1 _ _ _ _ _ _ _ _ _)
      | (with_reducible exact LeO.refl _)
      | (with_reducible exact LeO.none _)
      | (with_reducible refine LeO.ite ?_ ?_)
      | (with_reducible refine LeO.bind ?_ (fun _ => ?_))
      | exact ih0 _ _ _ _ _ _ _ _ _
      | exact ih1 _ _ _ _ _ _ _ _ _
      | exact LeO.none _
      | refine LeO.ite ?_ ?_
      | refine LeO.bind ?_ (fun _ => ?_)
    · intro y0 y1 y2 y3 y4 y5 y6 y7 y8
      unfold gaolerlaw01_BitsInsertThenExtract.j1
      repeat' first
      | (with_reducible exact ih0 _ _ _ _ _ _ _ _ _)
      | (with_reducible exact ih1 _ _ _ _ _ _ _ _ _)
      | (with_reducible exact LeO.refl _)
      | (with_reducible exact LeO.none _)
      | (with_reducible refine LeO.ite ?_ ?_)
      | (with_reducible refine LeO.bind ?_ (fun _ => ?_))
      | exact ih0 _ _ _ _ _ _ _ _ _
      | exact ih1 _ _ _ _ _ _ _ _ _
      | exact LeO.none _
      | refine LeO.ite ?_ ?_
      | refine LeO.bind ?_ (fun _ => ?_)
theorem gaolerlaw01_BitsInsertThenExtract.mono : ∀ a0 a1 a2 a3 a4 a5 a6 k, LeO (gaolerlaw01_BitsInsertThenExtract.f k a0 a1 a2 a3 a4 a5 a6) (gaolerlaw01_BitsInsertThenExtract.f (k + 1) a0 a1 a2 a3 a4 a5 a6) := by
  intro a0 a1 a2 a3 a4 a5 a6 k
  obtain ⟨ih0, ih1⟩ := gaolerlaw01_BitsInsertThenExtract.mono_l k
  unfold gaolerlaw01_BitsInsertThenExtract.f
  repeat' first
      | (with_reducible exact ih0 _ _ _ _ _ _ _ _ _)
      | (with_reducible exact ih1 _ _ _ _ _ _ _ _ _)
      | (with_reducible exact LeO.refl _)
      | (with_reducible exact LeO.none _)
      | (with_reducible refine LeO.ite ?_ ?_)
      | (with_reducible refine LeO.bind ?_ (fun _ => ?_))
      | exact ih0 _ _ _ _ _ _ _ _ _
      | exact ih1 _ _ _ _ _ _ _ _ _
      | exact LeO.none _
      | refine LeO.ite ?_ ?_
      | refine LeO.bind ?_ (fun _ => ?_)
set_option maxHeartbeats 8000000 in
set_option maxRecDepth 100000 in
theorem gaolerlaw01_BitsInsertThenExtract.calls (k : Nat) (a0 : Int) (a1 : Int) (a2 : Int) (a3 : Int) (a4 : Int) (a5 : Int) (a6 : Int) (r : Bool) (w : World) (h : gaolerlaw01_BitsInsertThenExtract.f k a0 a1 a2 a3 a4 a5 a6 = some r) :
    Calls Try.prog 4 #[.int .u32 a0, .int .u32 a1, .int .u32 a2, .int .u8 a3, .int .u8 a4, .int .u8 a5, .int .u8 a6] w fun e w' => e = .returned (.bool r) ∧ Drawn0 w w' := by
  have H : ((gaolerlaw01_awake.f).bind fun t117 => (if t117 = true then ((gaolerref01_Place.f a3 a4).bind fun bt118 => ((gaolerref01_Place.f a5 a6).bind fun bt120 => ((bits_Insert.f a0 bt118.1 bt118.2 a1).bind fun t122 => ((bits_Extract.f t122 bt118.1 bt118.2).bind fun t123 => ((bits_Extract.f a1 0 bt118.2).bind fun t124 => (if t123 = t124 then ((bits_Extract.f a0 bt118.1 bt118.2).bind fun t125 => ((bits_Insert.f t122 bt118.1 bt118.2 t125).bind fun t126 => (if t126 = a0 then ((bits_Insert.f t122 bt118.1 bt118.2 a2).bind fun t127 => ((bits_Insert.f a0 bt118.1 bt118.2 a2).bind fun t128 => (gaolerlaw01_BitsInsertThenExtract.j0 k a0 a1 a2 bt118.1 bt118.2 bt120.1 bt120.2 t122 (t127 != t128)))) else (gaolerlaw01_BitsInsertThenExtract.j0 k a0 a1 a2 bt118.1 bt118.2 bt120.1 bt120.2 t122 true)))) else (gaolerlaw01_BitsInsertThenExtract.j0 k a0 a1 a2 bt118.1 bt118.2 bt120.1 bt120.2 t122 true))))))) else (some false))) = some r := h
  clear h
  replace H := Option.bind_eq_some_iff.mp H
  obtain ⟨t117, A80, H⟩ := H
  replace H : (if t117 = true then ((gaolerref01_Place.f a3 a4).bind fun bt118 => ((gaolerref01_Place.f a5 a6).bind fun bt120 => ((bits_Insert.f a0 bt118.1 bt118.2 a1).bind fun t122 => ((bits_Extract.f t122 bt118.1 bt118.2).bind fun t123 => ((bits_Extract.f a1 0 bt118.2).bind fun t124 => (if t123 = t124 then ((bits_Extract.f a0 bt118.1 bt118.2).bind fun t125 => ((bits_Insert.f t122 bt118.1 bt118.2 t125).bind fun t126 => (if t126 = a0 then ((bits_Insert.f t122 bt118.1 bt118.2 a2).bind fun t127 => ((bits_Insert.f a0 bt118.1 bt118.2 a2).bind fun t128 => (gaolerlaw01_BitsInsertThenExtract.j0 k a0 a1 a2 bt118.1 bt118.2 bt120.1 bt120.2 t122 (t127 != t128)))) else (gaolerlaw01_BitsInsertThenExtract.j0 k a0 a1 a2 bt118.1 bt118.2 bt120.1 bt120.2 t122 true)))) else (gaolerlaw01_BitsInsertThenExtract.j0 k a0 a1 a2 bt118.1 bt118.2 bt120.1 bt120.2 t122 true))))))) else (some false)) = some r := H
  have A8 := Aside0.mk A80
  clear A80
  by_cases c9 : t117 = true
  · subst c9
    have H1 : ((gaolerref01_Place.f a3 a4).bind fun bt118 => ((gaolerref01_Place.f a5 a6).bind fun bt120 => ((bits_Insert.f a0 bt118.1 bt118.2 a1).bind fun t122 => ((bits_Extract.f t122 bt118.1 bt118.2).bind fun t123 => ((bits_Extract.f a1 0 bt118.2).bind fun t124 => (if t123 = t124 then ((bits_Extract.f a0 bt118.1 bt118.2).bind fun t125 => ((bits_Insert.f t122 bt118.1 bt118.2 t125).bind fun t126 => (if t126 = a0 then ((bits_Insert.f t122 bt118.1 bt118.2 a2).bind fun t127 => ((bits_Insert.f a0 bt118.1 bt118.2 a2).bind fun t128 => (gaolerlaw01_BitsInsertThenExtract.j0 k a0 a1 a2 bt118.1 bt118.2 bt120.1 bt120.2 t122 (t127 != t128)))) else (gaolerlaw01_BitsInsertThenExtract.j0 k a0 a1 a2 bt118.1 bt118.2 bt120.1 bt120.2 t122 true)))) else (gaolerlaw01_BitsInsertThenExtract.j0 k a0 a1 a2 bt118.1 bt118.2 bt120.1 bt120.2 t122 true))))))) = some r := by rw [if_pos rfl] at H; exact H
    clear H
    have H := H1
    clear H1
    replace H := Option.bind_eq_some_iff.mp H
    obtain ⟨⟨t118, t119⟩, A100, H⟩ := H
    replace H : ((gaolerref01_Place.f a5 a6).bind fun bt120 => ((bits_Insert.f a0 t118 t119 a1).bind fun t122 => ((bits_Extract.f t122 t118 t119).bind fun t123 => ((bits_Extract.f a1 0 t119).bind fun t124 => (if t123 = t124 then ((bits_Extract.f a0 t118 t119).bind fun t125 => ((bits_Insert.f t122 t118 t119 t125).bind fun t126 => (if t126 = a0 then ((bits_Insert.f t122 t118 t119 a2).bind fun t127 => ((bits_Insert.f a0 t118 t119 a2).bind fun t128 => (gaolerlaw01_BitsInsertThenExtract.j0 k a0 a1 a2 t118 t119 bt120.1 bt120.2 t122 (t127 != t128)))) else (gaolerlaw01_BitsInsertThenExtract.j0 k a0 a1 a2 t118 t119 bt120.1 bt120.2 t122 true)))) else (gaolerlaw01_BitsInsertThenExtract.j0 k a0 a1 a2 t118 t119 bt120.1 bt120.2 t122 true)))))) = some r := H
    have A10 := Aside0.mk A100
    clear A100
    replace H := Option.bind_eq_some_iff.mp H
    obtain ⟨⟨t120, t121⟩, A110, H⟩ := H
    replace H : ((bits_Insert.f a0 t118 t119 a1).bind fun t122 => ((bits_Extract.f t122 t118 t119).bind fun t123 => ((bits_Extract.f a1 0 t119).bind fun t124 => (if t123 = t124 then ((bits_Extract.f a0 t118 t119).bind fun t125 => ((bits_Insert.f t122 t118 t119 t125).bind fun t126 => (if t126 = a0 then ((bits_Insert.f t122 t118 t119 a2).bind fun t127 => ((bits_Insert.f a0 t118 t119 a2).bind fun t128 => (gaolerlaw01_BitsInsertThenExtract.j0 k a0 a1 a2 t118 t119 t120 t121 t122 (t127 != t128)))) else (gaolerlaw01_BitsInsertThenExtract.j0 k a0 a1 a2 t118 t119 t120 t121 t122 true)))) else (gaolerlaw01_BitsInsertThenExtract.j0 k a0 a1 a2 t118 t119 t120 t121 t122 true))))) = some r := H
    have A11 := Aside0.mk A110
    clear A110
    replace H := Option.bind_eq_some_iff.mp H
    obtain ⟨t122, A120, H⟩ := H
    replace H : ((bits_Extract.f t122 t118 t119).bind fun t123 => ((bits_Extract.f a1 0 t119).bind fun t124 => (if t123 = t124 then ((bits_Extract.f a0 t118 t119).bind fun t125 => ((bits_Insert.f t122 t118 t119 t125).bind fun t126 => (if t126 = a0 then ((bits_Insert.f t122 t118 t119 a2).bind fun t127 => ((bits_Insert.f a0 t118 t119 a2).bind fun t128 => (gaolerlaw01_BitsInsertThenExtract.j0 k a0 a1 a2 t118 t119 t120 t121 t122 (t127 != t128)))) else (gaolerlaw01_BitsInsertThenExtract.j0 k a0 a1 a2 t118 t119 t120 t121 t122 true)))) else (gaolerlaw01_BitsInsertThenExtract.j0 k a0 a1 a2 t118 t119 t120 t121 t122 true)))) = some r := H
    have A12 := Aside0.mk A120
    clear A120
    have HC13 := Aside0.mk H
    clear H
    go_enter Try.func4, Try.ntmps4
    go_upto_region 6 with (first | ((with_reducible refine gate_callee (f := 8) rfl ?_); refine goesL_ (some 20) rfl rfl Try.func8 (by kernel_rfl) rfl #[] rfl (by (try simp only [List.map_toArray, List.map_cons, List.map_nil]); first | done | rfl | (simp only [List.length_drop, List.length_take]; rfl)) ?_; (with_reducible refine (gaolerlaw01_awake.calls  true _ A8.out).mono ?_); rintro e w' ⟨rfl, ⟨nd, rfl⟩⟩; refine ⟨_, rfl, ?_⟩) | ((with_reducible refine gate_callee (f := 9) rfl ?_); refine goesL_ (some 25) rfl rfl Try.func9 (by kernel_rfl) rfl #[.int .u8 a3, .int .u8 a4] rfl (by (try simp only [List.map_toArray, List.map_cons, List.map_nil]); first | done | rfl | (simp only [List.length_drop, List.length_take]; rfl)) ?_; (with_reducible refine (gaolerref01_Place.calls a3 a4 t118 t119 _ A10.out).mono ?_); rintro e w' ⟨rfl, ⟨nd, rfl⟩⟩; refine ⟨_, rfl, ?_⟩) | ((with_reducible refine gate_callee (f := 9) rfl ?_); refine goesL_ (some 31) rfl rfl Try.func9 (by kernel_rfl) rfl #[.int .u8 a5, .int .u8 a6] rfl (by (try simp only [List.map_toArray, List.map_cons, List.map_nil]); first | done | rfl | (simp only [List.length_drop, List.length_take]; rfl)) ?_; (with_reducible refine (gaolerref01_Place.calls a5 a6 t120 t121 _ A11.out).mono ?_); rintro e w' ⟨rfl, ⟨nd, rfl⟩⟩; refine ⟨_, rfl, ?_⟩) | ((with_reducible refine gate_callee (f := 12) rfl ?_); refine goesL_ (some 38) rfl rfl Try.func12 (by kernel_rfl) rfl #[.int .u32 a0, .int .i64 t118, .int .i64 t119, .int .u32 a1] rfl (by (try simp only [List.map_toArray, List.map_cons, List.map_nil]); first | done | rfl | (simp only [List.length_drop, List.length_take]; rfl)) ?_; (with_reducible refine (bits_Insert.calls a0 t118 t119 a1 t122 _ A12.out).mono ?_); rintro e w' ⟨rfl, ⟨nd, rfl⟩⟩; refine ⟨_, rfl, ?_⟩))
    (try simp only [Act.put, List.setIfInBounds_toArray, List.set_cons_zero, List.set_cons_succ])
    go_cut [71] (fun v71 wc => ∃ (kq : Nat) (x71_12 : Bool), v71 = .bool x71_12 ∧ Aside0 (gaolerlaw01_BitsInsertThenExtract.j0 kq a0 a1 a2 t118 t119 t120 t121 t122 x71_12 = some r) ∧ Aside0 (kq ≤ k) ∧ Drawn0 w wc)
    case first =>
      have H := HC13.out
      clear HC13
      replace H := Option.bind_eq_some_iff.mp H
      obtain ⟨t123, A140, H⟩ := H
      replace H : ((bits_Extract.f a1 0 t119).bind fun t124 => (if t123 = t124 then ((bits_Extract.f a0 t118 t119).bind fun t125 => ((bits_Insert.f t122 t118 t119 t125).bind fun t126 => (if t126 = a0 then ((bits_Insert.f t122 t118 t119 a2).bind fun t127 => ((bits_Insert.f a0 t118 t119 a2).bind fun t128 => (gaolerlaw01_BitsInsertThenExtract.j0 k a0 a1 a2 t118 t119 t120 t121 t122 (t127 != t128)))) else (gaolerlaw01_BitsInsertThenExtract.j0 k a0 a1 a2 t118 t119 t120 t121 t122 true)))) else (gaolerlaw01_BitsInsertThenExtract.j0 k a0 a1 a2 t118 t119 t120 t121 t122 true))) = some r := H
      have A14 := Aside0.mk A140
      clear A140
      replace H := Option.bind_eq_some_iff.mp H
      obtain ⟨t124, A150, H⟩ := H
      replace H : (if t123 = t124 then ((bits_Extract.f a0 t118 t119).bind fun t125 => ((bits_Insert.f t122 t118 t119 t125).bind fun t126 => (if t126 = a0 then ((bits_Insert.f t122 t118 t119 a2).bind fun t127 => ((bits_Insert.f a0 t118 t119 a2).bind fun t128 => (gaolerlaw01_BitsInsertThenExtract.j0 k a0 a1 a2 t118 t119 t120 t121 t122 (t127 != t128)))) else (gaolerlaw01_BitsInsertThenExtract.j0 k a0 a1 a2 t118 t119 t120 t121 t122 true)))) else (gaolerlaw01_BitsInsertThenExtract.j0 k a0 a1 a2 t118 t119 t120 t121 t122 true)) = some r := H
      have A15 := Aside0.mk A150
      clear A150
      by_cases c16 : t123 = t124
      · rw [if_pos c16] at H
        have c16b0 : (t123 == t124) = true := beq_iff_eq.mpr c16
        have c16b1 : (t123 != t124) = false := bne_eq_false_iff_eq.mpr c16
        clear c16
        (first | rw [c16b0] | (simp only [i64_w, i32_w]; rw [c16b0]) | skip)
        replace H := Option.bind_eq_some_iff.mp H
        obtain ⟨t125, A170, H⟩ := H
        replace H : ((bits_Insert.f t122 t118 t119 t125).bind fun t126 => (if t126 = a0 then ((bits_Insert.f t122 t118 t119 a2).bind fun t127 => ((bits_Insert.f a0 t118 t119 a2).bind fun t128 => (gaolerlaw01_BitsInsertThenExtract.j0 k a0 a1 a2 t118 t119 t120 t121 t122 (t127 != t128)))) else (gaolerlaw01_BitsInsertThenExtract.j0 k a0 a1 a2 t118 t119 t120 t121 t122 true))) = some r := H
        have A17 := Aside0.mk A170
        clear A170
        replace H := Option.bind_eq_some_iff.mp H
        obtain ⟨t126, A180, H⟩ := H
        replace H : (if t126 = a0 then ((bits_Insert.f t122 t118 t119 a2).bind fun t127 => ((bits_Insert.f a0 t118 t119 a2).bind fun t128 => (gaolerlaw01_BitsInsertThenExtract.j0 k a0 a1 a2 t118 t119 t120 t121 t122 (t127 != t128)))) else (gaolerlaw01_BitsInsertThenExtract.j0 k a0 a1 a2 t118 t119 t120 t121 t122 true)) = some r := H
        have A18 := Aside0.mk A180
        clear A180
        by_cases c19 : t126 = a0
        · rw [if_pos c19] at H
          have c19b0 : (t126 == a0) = true := beq_iff_eq.mpr c19
          have c19b1 : (t126 != a0) = false := bne_eq_false_iff_eq.mpr c19
          clear c19
          replace H := Option.bind_eq_some_iff.mp H
          obtain ⟨t127, A200, H⟩ := H
          replace H : ((bits_Insert.f a0 t118 t119 a2).bind fun t128 => (gaolerlaw01_BitsInsertThenExtract.j0 k a0 a1 a2 t118 t119 t120 t121 t122 (t127 != t128))) = some r := H
          have A20 := Aside0.mk A200
          clear A200
          replace H := Option.bind_eq_some_iff.mp H
          obtain ⟨t128, A210, H⟩ := H
          replace H : (gaolerlaw01_BitsInsertThenExtract.j0 k a0 a1 a2 t118 t119 t120 t121 t122 (t127 != t128)) = some r := H
          have A21 := Aside0.mk A210
          clear A210
          have H' := Aside0.mk H
          clear H
          go_wp2_with (first | ((with_reducible refine gate_callee (f := 10) rfl ?_); refine goesL_ (some 42) rfl rfl Try.func10 (by kernel_rfl) rfl #[.int .u32 t122, .int .i64 t118, .int .i64 t119] rfl (by (try simp only [List.map_toArray, List.map_cons, List.map_nil]); first | done | rfl | (simp only [List.length_drop, List.length_take]; rfl)) ?_; (with_reducible refine (bits_Extract.calls t122 t118 t119 t123 _ A14.out).mono ?_); rintro e w' ⟨rfl, ⟨nd, rfl⟩⟩; refine ⟨_, rfl, ?_⟩) | ((with_reducible refine gate_callee (f := 10) rfl ?_); refine goesL_ (some 45) rfl rfl Try.func10 (by kernel_rfl) rfl #[.int .u32 a1, .int .i64 0, .int .i64 t119] rfl (by (try simp only [List.map_toArray, List.map_cons, List.map_nil]); first | done | rfl | (simp only [List.length_drop, List.length_take]; rfl)) ?_; (with_reducible refine (bits_Extract.calls a1 0 t119 t124 _ A15.out).mono ?_); rintro e w' ⟨rfl, ⟨nd, rfl⟩⟩; refine ⟨_, rfl, ?_⟩) | (go_at_call 10; (with_reducible refine (bits_Extract.calls a0 t118 t119 t125 _ A17.out).mono ?_); rintro e w' ⟨rfl, ⟨nd, rfl⟩⟩) | (go_at_call 12; (with_reducible refine (bits_Insert.calls t122 t118 t119 t125 t126 _ A18.out).mono ?_); rintro e w' ⟨rfl, ⟨nd, rfl⟩⟩) | (go_at_call 12; (with_reducible refine (bits_Insert.calls t122 t118 t119 a2 t127 _ A20.out).mono ?_); rintro e w' ⟨rfl, ⟨nd, rfl⟩⟩) | (go_at_call 12; (with_reducible refine (bits_Insert.calls a0 t118 t119 a2 t128 _ A21.out).mono ?_); rintro e w' ⟨rfl, ⟨nd, rfl⟩⟩))
          go_meet
          case rel => exact ⟨_, ((t127 != t128)), (by first | rfl | (simp; done) | (simp [*]; done)), H', ⟨by first | omega | exact Nat.le_refl _⟩, by repeat (first | exact Drawn0.refl _ | apply Drawn0.step)⟩
        · rw [if_neg c19] at H
          have c19b0 : (t126 == a0) = false := beq_eq_false_iff_ne.mpr c19
          have c19b1 : (t126 != a0) = true := bne_iff_ne.mpr c19
          have H' := Aside0.mk H
          clear H
          go_wp2_with (first | ((with_reducible refine gate_callee (f := 10) rfl ?_); refine goesL_ (some 42) rfl rfl Try.func10 (by kernel_rfl) rfl #[.int .u32 t122, .int .i64 t118, .int .i64 t119] rfl (by (try simp only [List.map_toArray, List.map_cons, List.map_nil]); first | done | rfl | (simp only [List.length_drop, List.length_take]; rfl)) ?_; (with_reducible refine (bits_Extract.calls t122 t118 t119 t123 _ A14.out).mono ?_); rintro e w' ⟨rfl, ⟨nd, rfl⟩⟩; refine ⟨_, rfl, ?_⟩) | ((with_reducible refine gate_callee (f := 10) rfl ?_); refine goesL_ (some 45) rfl rfl Try.func10 (by kernel_rfl) rfl #[.int .u32 a1, .int .i64 0, .int .i64 t119] rfl (by (try simp only [List.map_toArray, List.map_cons, List.map_nil]); first | done | rfl | (simp only [List.length_drop, List.length_take]; rfl)) ?_; (with_reducible refine (bits_Extract.calls a1 0 t119 t124 _ A15.out).mono ?_); rintro e w' ⟨rfl, ⟨nd, rfl⟩⟩; refine ⟨_, rfl, ?_⟩) | (go_at_call 10; (with_reducible refine (bits_Extract.calls a0 t118 t119 t125 _ A17.out).mono ?_); rintro e w' ⟨rfl, ⟨nd, rfl⟩⟩) | (go_at_call 12; (with_reducible refine (bits_Insert.calls t122 t118 t119 t125 t126 _ A18.out).mono ?_); rintro e w' ⟨rfl, ⟨nd, rfl⟩⟩))
          go_meet
          case rel => exact ⟨_, (true), (by first | rfl | (simp; done) | (simp [*]; done)), H', ⟨by first | omega | exact Nat.le_refl _⟩, by repeat (first | exact Drawn0.refl _ | apply Drawn0.step)⟩
      · rw [if_neg c16] at H
        have c16b0 : (t123 == t124) = false := beq_eq_false_iff_ne.mpr c16
        have c16b1 : (t123 != t124) = true := bne_iff_ne.mpr c16
        (first | rw [c16b0] | (simp only [i64_w, i32_w]; rw [c16b0]) | skip)
        have H' := Aside0.mk H
        clear H
        go_wp2_with (first | ((with_reducible refine gate_callee (f := 10) rfl ?_); refine goesL_ (some 42) rfl rfl Try.func10 (by kernel_rfl) rfl #[.int .u32 t122, .int .i64 t118, .int .i64 t119] rfl (by (try simp only [List.map_toArray, List.map_cons, List.map_nil]); first | done | rfl | (simp only [List.length_drop, List.length_take]; rfl)) ?_; (with_reducible refine (bits_Extract.calls t122 t118 t119 t123 _ A14.out).mono ?_); rintro e w' ⟨rfl, ⟨nd, rfl⟩⟩; refine ⟨_, rfl, ?_⟩) | ((with_reducible refine gate_callee (f := 10) rfl ?_); refine goesL_ (some 45) rfl rfl Try.func10 (by kernel_rfl) rfl #[.int .u32 a1, .int .i64 0, .int .i64 t119] rfl (by (try simp only [List.map_toArray, List.map_cons, List.map_nil]); first | done | rfl | (simp only [List.length_drop, List.length_take]; rfl)) ?_; (with_reducible refine (bits_Extract.calls a1 0 t119 t124 _ A15.out).mono ?_); rintro e w' ⟨rfl, ⟨nd, rfl⟩⟩; refine ⟨_, rfl, ?_⟩))
        go_meet
        case rel => exact ⟨_, (true), (by first | rfl | (simp; done) | (simp [*]; done)), H', ⟨by first | omega | exact Nat.le_refl _⟩, by repeat (first | exact Drawn0.refl _ | apply Drawn0.step)⟩
    case rest =>
      clear HC13
      try clear c1
      try clear p2
      try clear c4
      try clear c8
      try clear c9
      try clear c10
      try clear c12
      try clear c16
      try clear c16b0
      try clear c16b1
      try clear c19
      try clear c19b0
      try clear c19b1
      obtain ⟨kq, x71_12, rfl, HA, HJ12, ⟨mc12, rfl⟩⟩ := hcut
      cases kq with
      | zero => exact absurd HA.out (by simp [gaolerlaw01_BitsInsertThenExtract.j0])
      | succ kj12 =>
        have H := HA.out
        clear HA
        simp only [gaolerlaw01_BitsInsertThenExtract.j0] at H
        by_cases c22 : x71_12 = true
        · subst c22
          have H1 : (some false) = some r := by rw [if_pos rfl] at H; exact H
          clear H
          have H := H1
          clear H1
          obtain rfl := Option.some.inj H
          go_wp2
          go_ret
          exact ⟨by first | rfl | (simp; done) | (simp [*]; done), by repeat (first | exact Drawn0.refl _ | apply Drawn0.step)⟩
        · replace c22 := Bool.eq_false_iff.mpr c22
          subst c22
          have H1 : (if (wrap64 (t118 + t119)) ≤ t120 then (gaolerlaw01_BitsInsertThenExtract.j1 kj12 a0 a1 a2 t118 t119 t120 t121 t122 true) else (gaolerlaw01_BitsInsertThenExtract.j1 kj12 a0 a1 a2 t118 t119 t120 t121 t122 (decide ((wrap64 (t120 + t121)) ≤ t118)))) = some r := by rw [if_neg (show ¬ (false = true) by decide)] at H; exact H
          clear H
          have H := H1
          clear H1
          have HC23 := Aside0.mk H
          clear H
          go_upto_region 8 with (fail)
          go_cut [83] (fun v83 wc => ∃ (kq : Nat) (x83_22 : Bool), v83 = .bool x83_22 ∧ Aside0 (gaolerlaw01_BitsInsertThenExtract.j1 kq a0 a1 a2 t118 t119 t120 t121 t122 x83_22 = some r) ∧ Aside0 (kq ≤ kj12) ∧ Drawn0 w wc)
          case first =>
            have H := HC23.out
            clear HC23
            by_cases c24 : (wrap64 (t118 + t119)) ≤ t120
            · rw [if_pos c24] at H
              have c24b0 : decide ((wrap64 (t118 + t119)) ≤ t120) = true := decide_eq_true c24
              clear c24
              (first | rw [c24b0] | (simp only [i64_w, i32_w]; rw [c24b0]) | skip)
              have H' := Aside0.mk H
              clear H
              go_wp2
              go_meet
              case rel => exact ⟨_, (true), (by first | rfl | (simp; done) | (simp [*]; done)), H', ⟨by have := HJ12.out; first | omega | exact Nat.le_refl _⟩, by repeat (first | exact Drawn0.refl _ | apply Drawn0.step)⟩
            · rw [if_neg c24] at H
              have c24b0 : decide ((wrap64 (t118 + t119)) ≤ t120) = false := decide_eq_false c24
              clear c24
              (first | rw [c24b0] | (simp only [i64_w, i32_w]; rw [c24b0]) | skip)
              have H' := Aside0.mk H
              clear H
              go_wp2
              go_meet
              case rel => exact ⟨_, (decide ((wrap64 (t120 + t121)) ≤ t118)), (by first | rfl | (simp; done) | (simp [*]; done)), H', ⟨by have := HJ12.out; first | omega | exact Nat.le_refl _⟩, by repeat (first | exact Drawn0.refl _ | apply Drawn0.step)⟩
          case rest =>
            clear HC23
            try clear c1
            try clear c2
            try clear p2
            try clear c4
            try clear p6
            try clear c8
            try clear c9
            try clear c10
            try clear c12
            try clear c16
            try clear c16b0
            try clear c16b1
            try clear c19
            try clear c19b0
            try clear c19b1
            try clear c22
            try clear c24
            try clear c24b0
            try clear p2
            obtain ⟨kq, x83_22, rfl, HA, HJ22, ⟨mc22, rfl⟩⟩ := hcut
            cases kq with
            | zero => exact absurd HA.out (by simp [gaolerlaw01_BitsInsertThenExtract.j1])
            | succ kj22 =>
              have H := HA.out
              clear HA
              simp only [gaolerlaw01_BitsInsertThenExtract.j1] at H
              by_cases c25 : x83_22 = true
              · subst c25
                have H1 : ((bits_Extract.f t122 t120 t121).bind fun t129 => ((bits_Extract.f a0 t120 t121).bind fun t130 => (if t129 = t130 then ((bits_Insert.f a0 t120 t121 a2).bind fun t131 => ((bits_Insert.f t131 t118 t119 a1).bind fun t132 => ((bits_Insert.f t122 t120 t121 a2).bind fun t133 => (some (t132 == t133))))) else (some false)))) = some r := by rw [if_pos rfl] at H; exact H
                clear H
                have H := H1
                clear H1
                replace H := Option.bind_eq_some_iff.mp H
                obtain ⟨t129, A260, H⟩ := H
                replace H : ((bits_Extract.f a0 t120 t121).bind fun t130 => (if t129 = t130 then ((bits_Insert.f a0 t120 t121 a2).bind fun t131 => ((bits_Insert.f t131 t118 t119 a1).bind fun t132 => ((bits_Insert.f t122 t120 t121 a2).bind fun t133 => (some (t132 == t133))))) else (some false))) = some r := H
                have A26 := Aside0.mk A260
                clear A260
                replace H := Option.bind_eq_some_iff.mp H
                obtain ⟨t130, A270, H⟩ := H
                replace H : (if t129 = t130 then ((bits_Insert.f a0 t120 t121 a2).bind fun t131 => ((bits_Insert.f t131 t118 t119 a1).bind fun t132 => ((bits_Insert.f t122 t120 t121 a2).bind fun t133 => (some (t132 == t133))))) else (some false)) = some r := H
                have A27 := Aside0.mk A270
                clear A270
                by_cases c28 : t129 = t130
                · rw [if_pos c28] at H
                  have c28b0 : (t129 == t130) = true := beq_iff_eq.mpr c28
                  have c28b1 : (t129 != t130) = false := bne_eq_false_iff_eq.mpr c28
                  clear c28
                  replace H := Option.bind_eq_some_iff.mp H
                  obtain ⟨t131, A290, H⟩ := H
                  replace H : ((bits_Insert.f t131 t118 t119 a1).bind fun t132 => ((bits_Insert.f t122 t120 t121 a2).bind fun t133 => (some (t132 == t133)))) = some r := H
                  have A29 := Aside0.mk A290
                  clear A290
                  replace H := Option.bind_eq_some_iff.mp H
                  obtain ⟨t132, A300, H⟩ := H
                  replace H : ((bits_Insert.f t122 t120 t121 a2).bind fun t133 => (some (t132 == t133))) = some r := H
                  have A30 := Aside0.mk A300
                  clear A300
                  replace H := Option.bind_eq_some_iff.mp H
                  obtain ⟨t133, A310, H⟩ := H
                  replace H : (some (t132 == t133)) = some r := H
                  have A31 := Aside0.mk A310
                  clear A310
                  obtain rfl := Option.some.inj H
                  go_wp2_with (first | ((with_reducible refine gate_callee (f := 10) rfl ?_); refine goesL_ (some 87) rfl rfl Try.func10 (by kernel_rfl) rfl #[.int .u32 t122, .int .i64 t120, .int .i64 t121] rfl (by (try simp only [List.map_toArray, List.map_cons, List.map_nil]); first | done | rfl | (simp only [List.length_drop, List.length_take]; rfl)) ?_; (with_reducible refine (bits_Extract.calls t122 t120 t121 t129 _ A26.out).mono ?_); rintro e w' ⟨rfl, ⟨nd, rfl⟩⟩; refine ⟨_, rfl, ?_⟩) | ((with_reducible refine gate_callee (f := 10) rfl ?_); refine goesL_ (some 91) rfl rfl Try.func10 (by kernel_rfl) rfl #[.int .u32 a0, .int .i64 t120, .int .i64 t121] rfl (by (try simp only [List.map_toArray, List.map_cons, List.map_nil]); first | done | rfl | (simp only [List.length_drop, List.length_take]; rfl)) ?_; (with_reducible refine (bits_Extract.calls a0 t120 t121 t130 _ A27.out).mono ?_); rintro e w' ⟨rfl, ⟨nd, rfl⟩⟩; refine ⟨_, rfl, ?_⟩) | (go_at_call 12; (with_reducible refine (bits_Insert.calls a0 t120 t121 a2 t131 _ A29.out).mono ?_); rintro e w' ⟨rfl, ⟨nd, rfl⟩⟩) | (go_at_call 12; (with_reducible refine (bits_Insert.calls t131 t118 t119 a1 t132 _ A30.out).mono ?_); rintro e w' ⟨rfl, ⟨nd, rfl⟩⟩) | (go_at_call 12; (with_reducible refine (bits_Insert.calls t122 t120 t121 a2 t133 _ A31.out).mono ?_); rintro e w' ⟨rfl, ⟨nd, rfl⟩⟩))
                  go_ret
                  exact ⟨by first | rfl | (simp; done) | (simp [*]; done), by repeat (first | exact Drawn0.refl _ | apply Drawn0.step)⟩
                · rw [if_neg c28] at H
                  have c28b0 : (t129 == t130) = false := beq_eq_false_iff_ne.mpr c28
                  have c28b1 : (t129 != t130) = true := bne_iff_ne.mpr c28
                  obtain rfl := Option.some.inj H
                  go_wp2_with (first | ((with_reducible refine gate_callee (f := 10) rfl ?_); refine goesL_ (some 87) rfl rfl Try.func10 (by kernel_rfl) rfl #[.int .u32 t122, .int .i64 t120, .int .i64 t121] rfl (by (try simp only [List.map_toArray, List.map_cons, List.map_nil]); first | done | rfl | (simp only [List.length_drop, List.length_take]; rfl)) ?_; (with_reducible refine (bits_Extract.calls t122 t120 t121 t129 _ A26.out).mono ?_); rintro e w' ⟨rfl, ⟨nd, rfl⟩⟩; refine ⟨_, rfl, ?_⟩) | ((with_reducible refine gate_callee (f := 10) rfl ?_); refine goesL_ (some 91) rfl rfl Try.func10 (by kernel_rfl) rfl #[.int .u32 a0, .int .i64 t120, .int .i64 t121] rfl (by (try simp only [List.map_toArray, List.map_cons, List.map_nil]); first | done | rfl | (simp only [List.length_drop, List.length_take]; rfl)) ?_; (with_reducible refine (bits_Extract.calls a0 t120 t121 t130 _ A27.out).mono ?_); rintro e w' ⟨rfl, ⟨nd, rfl⟩⟩; refine ⟨_, rfl, ?_⟩))
                  go_ret
                  exact ⟨by first | rfl | (simp; done) | (simp [*]; done), by repeat (first | exact Drawn0.refl _ | apply Drawn0.step)⟩
              · replace c25 := Bool.eq_false_iff.mpr c25
                subst c25
                have H1 : (some true) = some r := by rw [if_neg (show ¬ (false = true) by decide)] at H; exact H
                clear H
                have H := H1
                clear H1
                obtain rfl := Option.some.inj H
                go_wp2
                go_ret
                exact ⟨by first | rfl | (simp; done) | (simp [*]; done), by repeat (first | exact Drawn0.refl _ | apply Drawn0.step)⟩
  · replace c9 := Bool.eq_false_iff.mpr c9
    subst c9
    have H1 : (some false) = some r := by rw [if_neg (show ¬ (false = true) by decide)] at H; exact H
    clear H
    have H := H1
    clear H1
    obtain rfl := Option.some.inj H
    go_enter Try.func4, Try.ntmps4
    go_wp2_with (first | ((with_reducible refine gate_callee (f := 8) rfl ?_); refine goesL_ (some 20) rfl rfl Try.func8 (by kernel_rfl) rfl #[] rfl (by (try simp only [List.map_toArray, List.map_cons, List.map_nil]); first | done | rfl | (simp only [List.length_drop, List.length_take]; rfl)) ?_; (with_reducible refine (gaolerlaw01_awake.calls  false _ A8.out).mono ?_); rintro e w' ⟨rfl, ⟨nd, rfl⟩⟩; refine ⟨_, rfl, ?_⟩))
    go_ret
    exact ⟨by first | rfl | (simp; done) | (simp [*]; done), by repeat (first | exact Drawn0.refl _ | apply Drawn0.step)⟩

/-- THE ONE PURE STATEMENT of gaolerlaw01_BitsInsertThenExtract: yours. -/
def gaolerlaw01_BitsInsertThenExtract.Pure : Prop := ∀ (a0 : Int) (a1 : Int) (a2 : Int) (a3 : Int) (a4 : Int) (a5 : Int) (a6 : Int), (Lit.int .u32 a0).wf = true → (Lit.int .u32 a1).wf = true → (Lit.int .u32 a2).wf = true → (Lit.int .u8 a3).wf = true → (Lit.int .u8 a4).wf = true → (Lit.int .u8 a5).wf = true → (Lit.int .u8 a6).wf = true → ∃ k, gaolerlaw01_BitsInsertThenExtract.f k a0 a1 a2 a3 a4 a5 a6 = some true
theorem gaolerlaw01_BitsInsertThenExtract.walk (P : gaolerlaw01_BitsInsertThenExtract.Pure) (a0 : Int) (a1 : Int) (a2 : Int) (a3 : Int) (a4 : Int) (a5 : Int) (a6 : Int) (w : World) (w0 : (Lit.int .u32 a0).wf = true) (w1 : (Lit.int .u32 a1).wf = true) (w2 : (Lit.int .u32 a2).wf = true) (w3 : (Lit.int .u8 a3).wf = true) (w4 : (Lit.int .u8 a4).wf = true) (w5 : (Lit.int .u8 a5).wf = true) (w6 : (Lit.int .u8 a6).wf = true) :
    Calls Try.prog 4 #[.int .u32 a0, .int .u32 a1, .int .u32 a2, .int .u8 a3, .int .u8 a4, .int .u8 a5, .int .u8 a6] w fun e w' => e = .returned (.bool true) ∧ Below w.heap.size w w' := by
  obtain ⟨k, h⟩ := P a0 a1 a2 a3 a4 a5 a6 w0 w1 w2 w3 w4 w5 w6
  refine (gaolerlaw01_BitsInsertThenExtract.calls k a0 a1 a2 a3 a4 a5 a6 true w h).mono ?_
  rintro e w' ⟨rfl, hd⟩
  exact ⟨rfl, hd.below⟩

end Go.Proofs.Ytgabcelholefmaa.PBitsInsertThenExtract
