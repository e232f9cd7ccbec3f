-- PRINTED BY print.sh 35421559b90ae4d0a3588c463048766b98c2df88dd9212a6774a882060cdf62d: not written by this session
import Derived.Test.YtgabcelholefmaaPBitsMatchReferencex0
import Derived.Test.YtgabcelholefmaaPBitsMatchReferencex1
namespace Go.Proofs.Ytgabcelholefmaa.PBitsMatchReference
open Go.RowKit Go.Proofs.YtgabcelholefmaaW.PrintWords Go.Proofs.YtgabcelholefmaaW.PrintLast Go.Proofs.YtgabcelholefmaaW.PrintMore
attribute [local go_sem] max2_int min2_int max_two min_two max_three min_three max_four min_four   -- for this text's walks alone
set_option linter.unusedVariables false
set_option linter.unusedSimpArgs false

/-! ### gaolerlaw01_BitsMatchReference: function 3 -/
def gaolerlaw01_BitsMatchReference.f (k : Nat) (a0 : Int) (a1 : Int) (a2 : Int) (a3 : Int) (a4 : Int) : Option (Bool) := (gaolerlaw01_awake.f).bind fun t129 => (if t129 = true then ((gaolerref01_Place.f a3 a4).bind fun bt130 => ((bits_Extract.f a0 bt130.1 bt130.2).bind fun t132 => ((gaolerref01_Field.f k a0 bt130.1 bt130.2).bind fun t133 => (if t132 = t133 then ((bits_Insert.f a0 bt130.1 bt130.2 a1).bind fun t134 => ((gaolerref01_Put.f k a0 bt130.1 bt130.2 a1).bind fun t135 => (if t134 = t135 then ((bits_SignExtend.f a1 bt130.2).bind fun t136 => ((gaolerref01_Sign.f k a1 bt130.2).bind fun t137 => (if t136 = t137 then ((bits_FitsSigned.f a2 bt130.2).bind fun t138 => ((gaolerref01_Fits.f k a2 bt130.2).bind fun t139 => (if (t138 == t139) = true then ((bits_LowBits.f a2 bt130.2).bind fun t140 => ((gaolerref01_Low.f k a2 bt130.2).bind fun t141 => (some (t140 == t141)))) else (some false)))) else (some false)))) else (some false)))) else (some false))))) else (some false))
theorem gaolerlaw01_BitsMatchReference.mono : ∀ a0 a1 a2 a3 a4 k, LeO (gaolerlaw01_BitsMatchReference.f k a0 a1 a2 a3 a4) (gaolerlaw01_BitsMatchReference.f (k + 1) a0 a1 a2 a3 a4) := by
  intro a0 a1 a2 a3 a4 k
  unfold gaolerlaw01_BitsMatchReference.f
  repeat' first
      | (with_reducible exact gaolerref01_Field.mono _ _ _ _)
      | (with_reducible exact gaolerref01_Fits.mono _ _ _)
      | (with_reducible exact gaolerref01_Low.mono _ _ _)
      | (with_reducible exact gaolerref01_Put.mono _ _ _ _ _)
      | (with_reducible exact gaolerref01_Sign.mono _ _ _)
      | (with_reducible exact LeO.refl _)
      | (with_reducible exact LeO.none _)
      | (with_reducible refine LeO.ite ?_ ?_)
      | (with_reducible refine LeO.bind ?_ (fun _ => ?_))
      | exact gaolerref01_Field.mono _ _ _ _
      | exact gaolerref01_Fits.mono _ _ _
      | exact gaolerref01_Low.mono _ _ _
      | exact gaolerref01_Put.mono _ _ _ _ _
      | exact gaolerref01_Sign.mono _ _ _
      | exact LeO.none _
      | refine LeO.ite ?_ ?_
      | refine LeO.bind ?_ (fun _ => ?_)
set_option maxHeartbeats 8000000 in
set_option maxRecDepth 100000 in
theorem gaolerlaw01_BitsMatchReference.calls (k : Nat) (a0 : Int) (a1 : Int) (a2 : Int) (a3 : Int) (a4 : Int) (r : Bool) (w : World) (h : gaolerlaw01_BitsMatchReference.f k a0 a1 a2 a3 a4 = some r) :
    Calls Try.prog 3 #[.int .u32 a0, .int .u32 a1, .int .i32 a2, .int .u8 a3, .int .u8 a4] w fun e w' => e = .returned (.bool r) ∧ Drawn0 w w' := by
  have H : ((gaolerlaw01_awake.f).bind fun t129 => (if t129 = true then ((gaolerref01_Place.f a3 a4).bind fun bt130 => ((bits_Extract.f a0 bt130.1 bt130.2).bind fun t132 => ((gaolerref01_Field.f k a0 bt130.1 bt130.2).bind fun t133 => (if t132 = t133 then ((bits_Insert.f a0 bt130.1 bt130.2 a1).bind fun t134 => ((gaolerref01_Put.f k a0 bt130.1 bt130.2 a1).bind fun t135 => (if t134 = t135 then ((bits_SignExtend.f a1 bt130.2).bind fun t136 => ((gaolerref01_Sign.f k a1 bt130.2).bind fun t137 => (if t136 = t137 then ((bits_FitsSigned.f a2 bt130.2).bind fun t138 => ((gaolerref01_Fits.f k a2 bt130.2).bind fun t139 => (if (t138 == t139) = true then ((bits_LowBits.f a2 bt130.2).bind fun t140 => ((gaolerref01_Low.f k a2 bt130.2).bind fun t141 => (some (t140 == t141)))) else (some false)))) else (some false)))) else (some false)))) else (some false))))) else (some false))) = some r := h
  clear h
  replace H := Option.bind_eq_some_iff.mp H
  obtain ⟨t129, A60, H⟩ := H
  replace H : (if t129 = true then ((gaolerref01_Place.f a3 a4).bind fun bt130 => ((bits_Extract.f a0 bt130.1 bt130.2).bind fun t132 => ((gaolerref01_Field.f k a0 bt130.1 bt130.2).bind fun t133 => (if t132 = t133 then ((bits_Insert.f a0 bt130.1 bt130.2 a1).bind fun t134 => ((gaolerref01_Put.f k a0 bt130.1 bt130.2 a1).bind fun t135 => (if t134 = t135 then ((bits_SignExtend.f a1 bt130.2).bind fun t136 => ((gaolerref01_Sign.f k a1 bt130.2).bind fun t137 => (if t136 = t137 then ((bits_FitsSigned.f a2 bt130.2).bind fun t138 => ((gaolerref01_Fits.f k a2 bt130.2).bind fun t139 => (if (t138 == t139) = true then ((bits_LowBits.f a2 bt130.2).bind fun t140 => ((gaolerref01_Low.f k a2 bt130.2).bind fun t141 => (some (t140 == t141)))) else (some false)))) else (some false)))) else (some false)))) else (some false))))) else (some false)) = some r := H
  have A6 := Aside0.mk A60
  clear A60
  by_cases c7 : t129 = true
  · subst c7
    have H1 : ((gaolerref01_Place.f a3 a4).bind fun bt130 => ((bits_Extract.f a0 bt130.1 bt130.2).bind fun t132 => ((gaolerref01_Field.f k a0 bt130.1 bt130.2).bind fun t133 => (if t132 = t133 then ((bits_Insert.f a0 bt130.1 bt130.2 a1).bind fun t134 => ((gaolerref01_Put.f k a0 bt130.1 bt130.2 a1).bind fun t135 => (if t134 = t135 then ((bits_SignExtend.f a1 bt130.2).bind fun t136 => ((gaolerref01_Sign.f k a1 bt130.2).bind fun t137 => (if t136 = t137 then ((bits_FitsSigned.f a2 bt130.2).bind fun t138 => ((gaolerref01_Fits.f k a2 bt130.2).bind fun t139 => (if (t138 == t139) = true then ((bits_LowBits.f a2 bt130.2).bind fun t140 => ((gaolerref01_Low.f k a2 bt130.2).bind fun t141 => (some (t140 == t141)))) else (some false)))) else (some false)))) else (some false)))) else (some false))))) = some r := by rw [if_pos rfl] at H; exact H
    clear H
    have H := H1
    clear H1
    replace H := Option.bind_eq_some_iff.mp H
    obtain ⟨⟨t130, t131⟩, A80, H⟩ := H
    replace H : ((bits_Extract.f a0 t130 t131).bind fun t132 => ((gaolerref01_Field.f k a0 t130 t131).bind fun t133 => (if t132 = t133 then ((bits_Insert.f a0 t130 t131 a1).bind fun t134 => ((gaolerref01_Put.f k a0 t130 t131 a1).bind fun t135 => (if t134 = t135 then ((bits_SignExtend.f a1 t131).bind fun t136 => ((gaolerref01_Sign.f k a1 t131).bind fun t137 => (if t136 = t137 then ((bits_FitsSigned.f a2 t131).bind fun t138 => ((gaolerref01_Fits.f k a2 t131).bind fun t139 => (if (t138 == t139) = true then ((bits_LowBits.f a2 t131).bind fun t140 => ((gaolerref01_Low.f k a2 t131).bind fun t141 => (some (t140 == t141)))) else (some false)))) else (some false)))) else (some false)))) else (some false)))) = some r := H
    have A8 := Aside0.mk A80
    clear A80
    replace H := Option.bind_eq_some_iff.mp H
    obtain ⟨t132, A90, H⟩ := H
    replace H : ((gaolerref01_Field.f k a0 t130 t131).bind fun t133 => (if t132 = t133 then ((bits_Insert.f a0 t130 t131 a1).bind fun t134 => ((gaolerref01_Put.f k a0 t130 t131 a1).bind fun t135 => (if t134 = t135 then ((bits_SignExtend.f a1 t131).bind fun t136 => ((gaolerref01_Sign.f k a1 t131).bind fun t137 => (if t136 = t137 then ((bits_FitsSigned.f a2 t131).bind fun t138 => ((gaolerref01_Fits.f k a2 t131).bind fun t139 => (if (t138 == t139) = true then ((bits_LowBits.f a2 t131).bind fun t140 => ((gaolerref01_Low.f k a2 t131).bind fun t141 => (some (t140 == t141)))) else (some false)))) else (some false)))) else (some false)))) else (some false))) = some r := H
    have A9 := Aside0.mk A90
    clear A90
    replace H := Option.bind_eq_some_iff.mp H
    obtain ⟨t133, A100, H⟩ := H
    replace H : (if t132 = t133 then ((bits_Insert.f a0 t130 t131 a1).bind fun t134 => ((gaolerref01_Put.f k a0 t130 t131 a1).bind fun t135 => (if t134 = t135 then ((bits_SignExtend.f a1 t131).bind fun t136 => ((gaolerref01_Sign.f k a1 t131).bind fun t137 => (if t136 = t137 then ((bits_FitsSigned.f a2 t131).bind fun t138 => ((gaolerref01_Fits.f k a2 t131).bind fun t139 => (if (t138 == t139) = true then ((bits_LowBits.f a2 t131).bind fun t140 => ((gaolerref01_Low.f k a2 t131).bind fun t141 => (some (t140 == t141)))) else (some false)))) else (some false)))) else (some false)))) else (some false)) = some r := H
    have A10 := Aside0.mk A100
    clear A100
    by_cases c11 : t132 = t133
    · rw [if_pos c11] at H
      have c11b0 : (t132 == t133) = true := beq_iff_eq.mpr c11
      have c11b1 : (t132 != t133) = false := bne_eq_false_iff_eq.mpr c11
      clear c11
      replace H := Option.bind_eq_some_iff.mp H
      obtain ⟨t134, A120, H⟩ := H
      replace H : ((gaolerref01_Put.f k a0 t130 t131 a1).bind fun t135 => (if t134 = t135 then ((bits_SignExtend.f a1 t131).bind fun t136 => ((gaolerref01_Sign.f k a1 t131).bind fun t137 => (if t136 = t137 then ((bits_FitsSigned.f a2 t131).bind fun t138 => ((gaolerref01_Fits.f k a2 t131).bind fun t139 => (if (t138 == t139) = true then ((bits_LowBits.f a2 t131).bind fun t140 => ((gaolerref01_Low.f k a2 t131).bind fun t141 => (some (t140 == t141)))) else (some false)))) else (some false)))) else (some false))) = some r := H
      have A12 := Aside0.mk A120
      clear A120
      replace H := Option.bind_eq_some_iff.mp H
      obtain ⟨t135, A130, H⟩ := H
      replace H : (if t134 = t135 then ((bits_SignExtend.f a1 t131).bind fun t136 => ((gaolerref01_Sign.f k a1 t131).bind fun t137 => (if t136 = t137 then ((bits_FitsSigned.f a2 t131).bind fun t138 => ((gaolerref01_Fits.f k a2 t131).bind fun t139 => (if (t138 == t139) = true then ((bits_LowBits.f a2 t131).bind fun t140 => ((gaolerref01_Low.f k a2 t131).bind fun t141 => (some (t140 == t141)))) else (some false)))) else (some false)))) else (some false)) = some r := H
      have A13 := Aside0.mk A130
      clear A130
      by_cases c14 : t134 = t135
      · rw [if_pos c14] at H
        have c14b0 : (t134 == t135) = true := beq_iff_eq.mpr c14
        have c14b1 : (t134 != t135) = false := bne_eq_false_iff_eq.mpr c14
        clear c14
        replace H := Option.bind_eq_some_iff.mp H
        obtain ⟨t136, A150, H⟩ := H
        replace H : ((gaolerref01_Sign.f k a1 t131).bind fun t137 => (if t136 = t137 then ((bits_FitsSigned.f a2 t131).bind fun t138 => ((gaolerref01_Fits.f k a2 t131).bind fun t139 => (if (t138 == t139) = true then ((bits_LowBits.f a2 t131).bind fun t140 => ((gaolerref01_Low.f k a2 t131).bind fun t141 => (some (t140 == t141)))) else (some false)))) else (some false))) = some r := H
        have A15 := Aside0.mk A150
        clear A150
        replace H := Option.bind_eq_some_iff.mp H
        obtain ⟨t137, A160, H⟩ := H
        replace H : (if t136 = t137 then ((bits_FitsSigned.f a2 t131).bind fun t138 => ((gaolerref01_Fits.f k a2 t131).bind fun t139 => (if (t138 == t139) = true then ((bits_LowBits.f a2 t131).bind fun t140 => ((gaolerref01_Low.f k a2 t131).bind fun t141 => (some (t140 == t141)))) else (some false)))) else (some false)) = some r := H
        have A16 := Aside0.mk A160
        clear A160
        by_cases c17 : t136 = t137
        · rw [if_pos c17] at H
          have c17b0 : (t136 == t137) = true := beq_iff_eq.mpr c17
          have c17b1 : (t136 != t137) = false := bne_eq_false_iff_eq.mpr c17
          clear c17
          replace H := Option.bind_eq_some_iff.mp H
          obtain ⟨t138, A180, H⟩ := H
          replace H : ((gaolerref01_Fits.f k a2 t131).bind fun t139 => (if (t138 == t139) = true then ((bits_LowBits.f a2 t131).bind fun t140 => ((gaolerref01_Low.f k a2 t131).bind fun t141 => (some (t140 == t141)))) else (some false))) = some r := H
          have A18 := Aside0.mk A180
          clear A180
          replace H := Option.bind_eq_some_iff.mp H
          obtain ⟨t139, A190, H⟩ := H
          replace H : (if (t138 == t139) = true then ((bits_LowBits.f a2 t131).bind fun t140 => ((gaolerref01_Low.f k a2 t131).bind fun t141 => (some (t140 == t141)))) else (some false)) = some r := H
          have A19 := Aside0.mk A190
          clear A190
          by_cases c20 : (t138 == t139) = true
          · rw [if_pos c20] at H
            have c20b0 : (t138 == t139) = true := c20
            (try (have c20b1 : decide (t138 = t139) = true := by simpa using c20))
            (try (have c20b2 : (t138 == t139) = true := by simpa using c20))
            clear c20
            replace H := Option.bind_eq_some_iff.mp H
            obtain ⟨t140, A210, H⟩ := H
            replace H : ((gaolerref01_Low.f k a2 t131).bind fun t141 => (some (t140 == t141))) = some r := H
            have A21 := Aside0.mk A210
            clear A210
            replace H := Option.bind_eq_some_iff.mp H
            obtain ⟨t141, A220, H⟩ := H
            replace H : (some (t140 == t141)) = some r := H
            have A22 := Aside0.mk A220
            clear A220
            obtain rfl := Option.some.inj H
            go_enter Try.func3, Try.ntmps3
            go_wp2_with (first | ((with_reducible refine gate_callee (f := 8) rfl ?_); refine goesL_ (some 13) rfl rfl Try.func8 (by kernel_rfl) rfl #[] rfl (by (try simp only [List.map_toArray, List.map_cons, List.map_nil]); first | done | rfl | (simp only [List.length_drop, List.length_take]; rfl)) ?_; (with_reducible refine (gaolerlaw01_awake.calls  true _ A6.out).mono ?_); rintro e w' ⟨rfl, ⟨nd, rfl⟩⟩; refine ⟨_, rfl, ?_⟩) | ((with_reducible refine gate_callee (f := 9) rfl ?_); refine goesL_ (some 18) rfl rfl Try.func9 (by kernel_rfl) rfl #[.int .u8 a3, .int .u8 a4] rfl (by (try simp only [List.map_toArray, List.map_cons, List.map_nil]); first | done | rfl | (simp only [List.length_drop, List.length_take]; rfl)) ?_; (with_reducible refine (gaolerref01_Place.calls a3 a4 t130 t131 _ A8.out).mono ?_); rintro e w' ⟨rfl, ⟨nd, rfl⟩⟩; refine ⟨_, rfl, ?_⟩) | ((with_reducible refine gate_callee (f := 10) rfl ?_); refine goesL_ (some 24) rfl rfl Try.func10 (by kernel_rfl) rfl #[.int .u32 a0, .int .i64 t130, .int .i64 t131] rfl (by (try simp only [List.map_toArray, List.map_cons, List.map_nil]); first | done | rfl | (simp only [List.length_drop, List.length_take]; rfl)) ?_; (with_reducible refine (bits_Extract.calls a0 t130 t131 t132 _ A9.out).mono ?_); rintro e w' ⟨rfl, ⟨nd, rfl⟩⟩; refine ⟨_, rfl, ?_⟩) | ((with_reducible refine gate_callee (f := 11) rfl ?_); refine goesL_ (some 28) rfl rfl Try.func11 (by kernel_rfl) rfl #[.int .u32 a0, .int .i64 t130, .int .i64 t131] rfl (by (try simp only [List.map_toArray, List.map_cons, List.map_nil]); first | done | rfl | (simp only [List.length_drop, List.length_take]; rfl)) ?_; (with_reducible refine (gaolerref01_Field.calls k a0 t130 t131 t133 _ A10.out).mono ?_); rintro e w' ⟨rfl, ⟨nd, rfl⟩⟩; refine ⟨_, rfl, ?_⟩) | (go_at_call 12; (with_reducible refine (bits_Insert.calls a0 t130 t131 a1 t134 _ A12.out).mono ?_); rintro e w' ⟨rfl, ⟨nd, rfl⟩⟩) | (go_at_call 13; (with_reducible refine (gaolerref01_Put.calls k a0 t130 t131 a1 t135 _ A13.out).mono ?_); rintro e w' ⟨rfl, ⟨nd, rfl⟩⟩) | (go_at_call 14; (with_reducible refine (bits_SignExtend.calls a1 t131 t136 _ A15.out).mono ?_); rintro e w' ⟨rfl, ⟨nd, rfl⟩⟩) | (go_at_call 15; (with_reducible refine (gaolerref01_Sign.calls k a1 t131 t137 _ A16.out).mono ?_); rintro e w' ⟨rfl, ⟨nd, rfl⟩⟩) | (go_at_call 16; (with_reducible refine (bits_FitsSigned.calls a2 t131 t138 _ A18.out).mono ?_); rintro e w' ⟨rfl, ⟨nd, rfl⟩⟩) | (go_at_call 17; (with_reducible refine (gaolerref01_Fits.calls k a2 t131 t139 _ A19.out).mono ?_); rintro e w' ⟨rfl, ⟨nd, rfl⟩⟩) | (go_at_call 18; (with_reducible refine (bits_LowBits.calls a2 t131 t140 _ A21.out).mono ?_); rintro e w' ⟨rfl, ⟨nd, rfl⟩⟩) | (go_at_call 19; (with_reducible refine (gaolerref01_Low.calls k a2 t131 t141 _ A22.out).mono ?_); rintro e w' ⟨rfl, ⟨nd, rfl⟩⟩))
            go_ret
            exact ⟨by first | rfl | (simp; done) | (simp [*]; done), by repeat (first | exact Drawn0.refl _ | apply Drawn0.step)⟩
          · rw [if_neg c20] at H
            have c20b0 : (t138 == t139) = false := by simpa using c20
            (try (have c20b1 : decide (t138 = t139) = false := by simpa using c20))
            (try (have c20b2 : (t138 == t139) = false := by simpa using c20))
            (try (have c20b3 : ¬ (t138 = t139) := by simpa using c20))
            clear c20
            obtain rfl := Option.some.inj H
            go_enter Try.func3, Try.ntmps3
            go_wp2_with (first | ((with_reducible refine gate_callee (f := 8) rfl ?_); refine goesL_ (some 13) rfl rfl Try.func8 (by kernel_rfl) rfl #[] rfl (by (try simp only [List.map_toArray, List.map_cons, List.map_nil]); first | done | rfl | (simp only [List.length_drop, List.length_take]; rfl)) ?_; (with_reducible refine (gaolerlaw01_awake.calls  true _ A6.out).mono ?_); rintro e w' ⟨rfl, ⟨nd, rfl⟩⟩; refine ⟨_, rfl, ?_⟩) | ((with_reducible refine gate_callee (f := 9) rfl ?_); refine goesL_ (some 18) rfl rfl Try.func9 (by kernel_rfl) rfl #[.int .u8 a3, .int .u8 a4] rfl (by (try simp only [List.map_toArray, List.map_cons, List.map_nil]); first | done | rfl | (simp only [List.length_drop, List.length_take]; rfl)) ?_; (with_reducible refine (gaolerref01_Place.calls a3 a4 t130 t131 _ A8.out).mono ?_); rintro e w' ⟨rfl, ⟨nd, rfl⟩⟩; refine ⟨_, rfl, ?_⟩) | ((with_reducible refine gate_callee (f := 10) rfl ?_); refine goesL_ (some 24) rfl rfl Try.func10 (by kernel_rfl) rfl #[.int .u32 a0, .int .i64 t130, .int .i64 t131] rfl (by (try simp only [List.map_toArray, List.map_cons, List.map_nil]); first | done | rfl | (simp only [List.length_drop, List.length_take]; rfl)) ?_; (with_reducible refine (bits_Extract.calls a0 t130 t131 t132 _ A9.out).mono ?_); rintro e w' ⟨rfl, ⟨nd, rfl⟩⟩; refine ⟨_, rfl, ?_⟩) | ((with_reducible refine gate_callee (f := 11) rfl ?_); refine goesL_ (some 28) rfl rfl Try.func11 (by kernel_rfl) rfl #[.int .u32 a0, .int .i64 t130, .int .i64 t131] rfl (by (try simp only [List.map_toArray, List.map_cons, List.map_nil]); first | done | rfl | (simp only [List.length_drop, List.length_take]; rfl)) ?_; (with_reducible refine (gaolerref01_Field.calls k a0 t130 t131 t133 _ A10.out).mono ?_); rintro e w' ⟨rfl, ⟨nd, rfl⟩⟩; refine ⟨_, rfl, ?_⟩) | (go_at_call 12; (with_reducible refine (bits_Insert.calls a0 t130 t131 a1 t134 _ A12.out).mono ?_); rintro e w' ⟨rfl, ⟨nd, rfl⟩⟩) | (go_at_call 13; (with_reducible refine (gaolerref01_Put.calls k a0 t130 t131 a1 t135 _ A13.out).mono ?_); rintro e w' ⟨rfl, ⟨nd, rfl⟩⟩) | (go_at_call 14; (with_reducible refine (bits_SignExtend.calls a1 t131 t136 _ A15.out).mono ?_); rintro e w' ⟨rfl, ⟨nd, rfl⟩⟩) | (go_at_call 15; (with_reducible refine (gaolerref01_Sign.calls k a1 t131 t137 _ A16.out).mono ?_); rintro e w' ⟨rfl, ⟨nd, rfl⟩⟩) | (go_at_call 16; (with_reducible refine (bits_FitsSigned.calls a2 t131 t138 _ A18.out).mono ?_); rintro e w' ⟨rfl, ⟨nd, rfl⟩⟩) | (go_at_call 17; (with_reducible refine (gaolerref01_Fits.calls k a2 t131 t139 _ A19.out).mono ?_); rintro e w' ⟨rfl, ⟨nd, rfl⟩⟩))
            go_ret
            exact ⟨by first | rfl | (simp; done) | (simp [*]; done), by repeat (first | exact Drawn0.refl _ | apply Drawn0.step)⟩
        · rw [if_neg c17] at H
          have c17b0 : (t136 == t137) = false := beq_eq_false_iff_ne.mpr c17
          have c17b1 : (t136 != t137) = true := bne_iff_ne.mpr c17
          obtain rfl := Option.some.inj H
          go_enter Try.func3, Try.ntmps3
          go_wp2_with (first | ((with_reducible refine gate_callee (f := 8) rfl ?_); refine goesL_ (some 13) rfl rfl Try.func8 (by kernel_rfl) rfl #[] rfl (by (try simp only [List.map_toArray, List.map_cons, List.map_nil]); first | done | rfl | (simp only [List.length_drop, List.length_take]; rfl)) ?_; (with_reducible refine (gaolerlaw01_awake.calls  true _ A6.out).mono ?_); rintro e w' ⟨rfl, ⟨nd, rfl⟩⟩; refine ⟨_, rfl, ?_⟩) | ((with_reducible refine gate_callee (f := 9) rfl ?_); refine goesL_ (some 18) rfl rfl Try.func9 (by kernel_rfl) rfl #[.int .u8 a3, .int .u8 a4] rfl (by (try simp only [List.map_toArray, List.map_cons, List.map_nil]); first | done | rfl | (simp only [List.length_drop, List.length_take]; rfl)) ?_; (with_reducible refine (gaolerref01_Place.calls a3 a4 t130 t131 _ A8.out).mono ?_); rintro e w' ⟨rfl, ⟨nd, rfl⟩⟩; refine ⟨_, rfl, ?_⟩) | ((with_reducible refine gate_callee (f := 10) rfl ?_); refine goesL_ (some 24) rfl rfl Try.func10 (by kernel_rfl) rfl #[.int .u32 a0, .int .i64 t130, .int .i64 t131] rfl (by (try simp only [List.map_toArray, List.map_cons, List.map_nil]); first | done | rfl | (simp only [List.length_drop, List.length_take]; rfl)) ?_; (with_reducible refine (bits_Extract.calls a0 t130 t131 t132 _ A9.out).mono ?_); rintro e w' ⟨rfl, ⟨nd, rfl⟩⟩; refine ⟨_, rfl, ?_⟩) | ((with_reducible refine gate_callee (f := 11) rfl ?_); refine goesL_ (some 28) rfl rfl Try.func11 (by kernel_rfl) rfl #[.int .u32 a0, .int .i64 t130, .int .i64 t131] rfl (by (try simp only [List.map_toArray, List.map_cons, List.map_nil]); first | done | rfl | (simp only [List.length_drop, List.length_take]; rfl)) ?_; (with_reducible refine (gaolerref01_Field.calls k a0 t130 t131 t133 _ A10.out).mono ?_); rintro e w' ⟨rfl, ⟨nd, rfl⟩⟩; refine ⟨_, rfl, ?_⟩) | (go_at_call 12; (with_reducible refine (bits_Insert.calls a0 t130 t131 a1 t134 _ A12.out).mono ?_); rintro e w' ⟨rfl, ⟨nd, rfl⟩⟩) | (go_at_call 13; (with_reducible refine (gaolerref01_Put.calls k a0 t130 t131 a1 t135 _ A13.out).mono ?_); rintro e w' ⟨rfl, ⟨nd, rfl⟩⟩) | (go_at_call 14; (with_reducible refine (bits_SignExtend.calls a1 t131 t136 _ A15.out).mono ?_); rintro e w' ⟨rfl, ⟨nd, rfl⟩⟩) | (go_at_call 15; (with_reducible refine (gaolerref01_Sign.calls k a1 t131 t137 _ A16.out).mono ?_); rintro e w' ⟨rfl, ⟨nd, rfl⟩⟩))
          go_ret
          exact ⟨by first | rfl | (simp; done) | (simp [*]; done), by repeat (first | exact Drawn0.refl _ | apply Drawn0.step)⟩
      · rw [if_neg c14] at H
        have c14b0 : (t134 == t135) = false := beq_eq_false_iff_ne.mpr c14
        have c14b1 : (t134 != t135) = true := bne_iff_ne.mpr c14
        obtain rfl := Option.some.inj H
        go_enter Try.func3, Try.ntmps3
        go_wp2_with (first | ((with_reducible refine gate_callee (f := 8) rfl ?_); refine goesL_ (some 13) rfl rfl Try.func8 (by kernel_rfl) rfl #[] rfl (by (try simp only [List.map_toArray, List.map_cons, List.map_nil]); first | done | rfl | (simp only [List.length_drop, List.length_take]; rfl)) ?_; (with_reducible refine (gaolerlaw01_awake.calls  true _ A6.out).mono ?_); rintro e w' ⟨rfl, ⟨nd, rfl⟩⟩; refine ⟨_, rfl, ?_⟩) | ((with_reducible refine gate_callee (f := 9) rfl ?_); refine goesL_ (some 18) rfl rfl Try.func9 (by kernel_rfl) rfl #[.int .u8 a3, .int .u8 a4] rfl (by (try simp only [List.map_toArray, List.map_cons, List.map_nil]); first | done | rfl | (simp only [List.length_drop, List.length_take]; rfl)) ?_; (with_reducible refine (gaolerref01_Place.calls a3 a4 t130 t131 _ A8.out).mono ?_); rintro e w' ⟨rfl, ⟨nd, rfl⟩⟩; refine ⟨_, rfl, ?_⟩) | ((with_reducible refine gate_callee (f := 10) rfl ?_); refine goesL_ (some 24) rfl rfl Try.func10 (by kernel_rfl) rfl #[.int .u32 a0, .int .i64 t130, .int .i64 t131] rfl (by (try simp only [List.map_toArray, List.map_cons, List.map_nil]); first | done | rfl | (simp only [List.length_drop, List.length_take]; rfl)) ?_; (with_reducible refine (bits_Extract.calls a0 t130 t131 t132 _ A9.out).mono ?_); rintro e w' ⟨rfl, ⟨nd, rfl⟩⟩; refine ⟨_, rfl, ?_⟩) | ((with_reducible refine gate_callee (f := 11) rfl ?_); refine goesL_ (some 28) rfl rfl Try.func11 (by kernel_rfl) rfl #[.int .u32 a0, .int .i64 t130, .int .i64 t131] rfl (by (try simp only [List.map_toArray, List.map_cons, List.map_nil]); first | done | rfl | (simp only [List.length_drop, List.length_take]; rfl)) ?_; (with_reducible refine (gaolerref01_Field.calls k a0 t130 t131 t133 _ A10.out).mono ?_); rintro e w' ⟨rfl, ⟨nd, rfl⟩⟩; refine ⟨_, rfl, ?_⟩) | (go_at_call 12; (with_reducible refine (bits_Insert.calls a0 t130 t131 a1 t134 _ A12.out).mono ?_); rintro e w' ⟨rfl, ⟨nd, rfl⟩⟩) | (go_at_call 13; (with_reducible refine (gaolerref01_Put.calls k a0 t130 t131 a1 t135 _ A13.out).mono ?_); rintro e w' ⟨rfl, ⟨nd, rfl⟩⟩))
        go_ret
        exact ⟨by first | rfl | (simp; done) | (simp [*]; done), by repeat (first | exact Drawn0.refl _ | apply Drawn0.step)⟩
    · rw [if_neg c11] at H
      have c11b0 : (t132 == t133) = false := beq_eq_false_iff_ne.mpr c11
      have c11b1 : (t132 != t133) = true := bne_iff_ne.mpr c11
      obtain rfl := Option.some.inj H
      go_enter Try.func3, Try.ntmps3
      go_wp2_with (first | ((with_reducible refine gate_callee (f := 8) rfl ?_); refine goesL_ (some 13) rfl rfl Try.func8 (by kernel_rfl) rfl #[] rfl (by (try simp only [List.map_toArray, List.map_cons, List.map_nil]); first | done | rfl | (simp only [List.length_drop, List.length_take]; rfl)) ?_; (with_reducible refine (gaolerlaw01_awake.calls  true _ A6.out).mono ?_); rintro e w' ⟨rfl, ⟨nd, rfl⟩⟩; refine ⟨_, rfl, ?_⟩) | ((with_reducible refine gate_callee (f := 9) rfl ?_); refine goesL_ (some 18) rfl rfl Try.func9 (by kernel_rfl) rfl #[.int .u8 a3, .int .u8 a4] rfl (by (try simp only [List.map_toArray, List.map_cons, List.map_nil]); first | done | rfl | (simp only [List.length_drop, List.length_take]; rfl)) ?_; (with_reducible refine (gaolerref01_Place.calls a3 a4 t130 t131 _ A8.out).mono ?_); rintro e w' ⟨rfl, ⟨nd, rfl⟩⟩; refine ⟨_, rfl, ?_⟩) | ((with_reducible refine gate_callee (f := 10) rfl ?_); refine goesL_ (some 24) rfl rfl Try.func10 (by kernel_rfl) rfl #[.int .u32 a0, .int .i64 t130, .int .i64 t131] rfl (by (try simp only [List.map_toArray, List.map_cons, List.map_nil]); first | done | rfl | (simp only [List.length_drop, List.length_take]; rfl)) ?_; (with_reducible refine (bits_Extract.calls a0 t130 t131 t132 _ A9.out).mono ?_); rintro e w' ⟨rfl, ⟨nd, rfl⟩⟩; refine ⟨_, rfl, ?_⟩) | ((with_reducible refine gate_callee (f := 11) rfl ?_); refine goesL_ (some 28) rfl rfl Try.func11 (by kernel_rfl) rfl #[.int .u32 a0, .int .i64 t130, .int .i64 t131] rfl (by (try simp only [List.map_toArray, List.map_cons, List.map_nil]); first | done | rfl | (simp only [List.length_drop, List.length_take]; rfl)) ?_; (with_reducible refine (gaolerref01_Field.calls k a0 t130 t131 t133 _ A10.out).mono ?_); rintro e w' ⟨rfl, ⟨nd, rfl⟩⟩; refine ⟨_, rfl, ?_⟩))
      go_ret
      exact ⟨by first | rfl | (simp; done) | (simp [*]; done), by repeat (first | exact Drawn0.refl _ | apply Drawn0.step)⟩
  · replace c7 := Bool.eq_false_iff.mpr c7
    subst c7
    have H1 : (some false) = some r := by rw [if_neg (show ¬ (false = true) by decide)] at H; exact H
    clear H
    have H := H1
    clear H1
    obtain rfl := Option.some.inj H
    go_enter Try.func3, Try.ntmps3
    go_wp2_with (first | ((with_reducible refine gate_callee (f := 8) rfl ?_); refine goesL_ (some 13) rfl rfl Try.func8 (by kernel_rfl) rfl #[] rfl (by (try simp only [List.map_toArray, List.map_cons, List.map_nil]); first | done | rfl | (simp only [List.length_drop, List.length_take]; rfl)) ?_; (with_reducible refine (gaolerlaw01_awake.calls  false _ A6.out).mono ?_); rintro e w' ⟨rfl, ⟨nd, rfl⟩⟩; refine ⟨_, rfl, ?_⟩))
    go_ret
    exact ⟨by first | rfl | (simp; done) | (simp [*]; done), by repeat (first | exact Drawn0.refl _ | apply Drawn0.step)⟩

/-- THE ONE PURE STATEMENT of gaolerlaw01_BitsMatchReference: yours. -/
def gaolerlaw01_BitsMatchReference.Pure : Prop := ∀ (a0 : Int) (a1 : Int) (a2 : Int) (a3 : Int) (a4 : Int), (Lit.int .u32 a0).wf = true → (Lit.int .u32 a1).wf = true → (Lit.int .i32 a2).wf = true → (Lit.int .u8 a3).wf = true → (Lit.int .u8 a4).wf = true → ∃ k, gaolerlaw01_BitsMatchReference.f k a0 a1 a2 a3 a4 = some true
theorem gaolerlaw01_BitsMatchReference.walk (P : gaolerlaw01_BitsMatchReference.Pure) (a0 : Int) (a1 : Int) (a2 : Int) (a3 : Int) (a4 : Int) (w : World) (w0 : (Lit.int .u32 a0).wf = true) (w1 : (Lit.int .u32 a1).wf = true) (w2 : (Lit.int .i32 a2).wf = true) (w3 : (Lit.int .u8 a3).wf = true) (w4 : (Lit.int .u8 a4).wf = true) :
    Calls Try.prog 3 #[.int .u32 a0, .int .u32 a1, .int .i32 a2, .int .u8 a3, .int .u8 a4] w fun e w' => e = .returned (.bool true) ∧ Below w.heap.size w w' := by
  obtain ⟨k, h⟩ := P a0 a1 a2 a3 a4 w0 w1 w2 w3 w4
  refine (gaolerlaw01_BitsMatchReference.calls k a0 a1 a2 a3 a4 true w h).mono ?_
  rintro e w' ⟨rfl, hd⟩
  exact ⟨rfl, hd.below⟩

end Go.Proofs.Ytgabcelholefmaa.PBitsMatchReference
