-- PRINTED BY print.sh 35421559b90ae4d0a3588c463048766b98c2df88dd9212a6774a882060cdf62d: not written by this session
import Derived.Test.YtihnglgknncgpaaGreatDoorPAsmEveryWordHasOneLinex0
import Derived.Test.YtihnglgknncgpaaGreatDoorPAsmEveryWordHasOneLinex5
namespace Go.Proofs.YtihnglgknncgpaaGreatDoor.PAsmEveryWordHasOneLine
open Go.RowKit Go.Proofs.YtihnglgknncgpaaGreatDoorW.PrintWords Go.Proofs.YtihnglgknncgpaaGreatDoorW.PrintLast Go.Proofs.YtihnglgknncgpaaGreatDoorW.PrintMore
attribute [local go_sem] max2_int min2_int max_two min_two max_three min_three max_four min_four   -- for this text's walks alone
set_option linter.unusedVariables false
set_option linter.unusedSimpArgs false

/-! ### gaolerref01_Sign: function 20 -/
def gaolerref01_Sign.f (k : Nat) (a0 : Int) (a1 : Int) : Option (Int) := (gaolerref01_Field.f k a0 0 a1).bind fun t162 => ((gaolerref01_Pow.f k (wrap64 (a1 - 1))).bind fun t163 => (if (wrap64 (t162)) ≥ (wrap64 (t163)) then ((gaolerref01_Pow.f k a1).bind fun t164 => (some (wrap32 (wrap64 ((wrap64 (t162)) - (wrap64 (t164))))))) else (some (wrap32 (wrap64 (t162))))))
theorem gaolerref01_Sign.mono : ∀ a0 a1 k, LeO (gaolerref01_Sign.f k a0 a1) (gaolerref01_Sign.f (k + 1) a0 a1) := by
  intro a0 a1 k
  unfold gaolerref01_Sign.f
  repeat' first
      | (with_reducible exact gaolerref01_Field.mono _ _ _ _)
      | (with_reducible exact gaolerref01_Pow.mono _ _)
      | (with_reducible exact LeO.refl _)
      | (with_reducible exact LeO.none _)
      | (with_reducible refine LeO.ite ?_ ?_)
      | (with_reducible refine LeO.bind ?_ (fun _ => ?_))
      | exact gaolerref01_Field.mono _ _ _ _
      | exact gaolerref01_Pow.mono _ _
      | exact LeO.none _
      | refine LeO.ite ?_ ?_
      | refine LeO.bind ?_ (fun _ => ?_)
set_option maxHeartbeats 8000000 in
set_option maxRecDepth 100000 in
theorem gaolerref01_Sign.calls (k : Nat) (a0 : Int) (a1 : Int) (r : Int) (w : World) (h : gaolerref01_Sign.f k a0 a1 = some r) :
    Calls Tryz.prog 20 #[.int .u32 a0, .int .i64 a1] w fun e w' => e = .returned (.int .i32 r) ∧ Drawn0 w w' := by
  have H : ((gaolerref01_Field.f k a0 0 a1).bind fun t162 => ((gaolerref01_Pow.f k (wrap64 (a1 - 1))).bind fun t163 => (if (wrap64 (t162)) ≥ (wrap64 (t163)) then ((gaolerref01_Pow.f k a1).bind fun t164 => (some (wrap32 (wrap64 ((wrap64 (t162)) - (wrap64 (t164))))))) else (some (wrap32 (wrap64 (t162))))))) = some r := h
  clear h
  replace H := Option.bind_eq_some_iff.mp H
  obtain ⟨t162, A30, H⟩ := H
  replace H : ((gaolerref01_Pow.f k (wrap64 (a1 - 1))).bind fun t163 => (if (wrap64 (t162)) ≥ (wrap64 (t163)) then ((gaolerref01_Pow.f k a1).bind fun t164 => (some (wrap32 (wrap64 ((wrap64 (t162)) - (wrap64 (t164))))))) else (some (wrap32 (wrap64 (t162)))))) = some r := H
  have A3 := Aside0.mk A30
  clear A30
  replace H := Option.bind_eq_some_iff.mp H
  obtain ⟨t163, A40, H⟩ := H
  replace H : (if (wrap64 (t162)) ≥ (wrap64 (t163)) then ((gaolerref01_Pow.f k a1).bind fun t164 => (some (wrap32 (wrap64 ((wrap64 (t162)) - (wrap64 (t164))))))) else (some (wrap32 (wrap64 (t162))))) = some r := H
  have A4 := Aside0.mk A40
  clear A40
  by_cases c5 : (wrap64 (t162)) ≥ (wrap64 (t163))
  · rw [if_pos c5] at H
    have c5b0 : decide ((wrap64 (t163)) ≤ (wrap64 (t162))) = true := decide_eq_true c5
    clear c5
    replace H := Option.bind_eq_some_iff.mp H
    obtain ⟨t164, A60, H⟩ := H
    replace H : (some (wrap32 (wrap64 ((wrap64 (t162)) - (wrap64 (t164)))))) = some r := H
    have A6 := Aside0.mk A60
    clear A60
    obtain rfl := Option.some.inj H
    go_enter Tryz.func20, Tryz.ntmps20
    go_wp2_with (first | ((with_reducible refine gate_callee (f := 43) rfl ?_); refine goesL_ (some 8) rfl rfl Tryz.func43 (by kernel_rfl) rfl #[.int .u32 a0, .int .i64 0, .int .i64 a1] rfl (by (try simp only [List.map_toArray, List.map_cons, List.map_nil]); first | done | rfl | (simp only [List.length_drop, List.length_take]; rfl)) ?_; (with_reducible refine (gaolerref01_Field.calls k a0 0 a1 t162 _ A3.out).mono ?_); rintro e w' ⟨rfl, ⟨nd, rfl⟩⟩; refine ⟨_, rfl, ?_⟩) | ((with_reducible refine gate_callee (f := 44) rfl ?_); refine goesL_ (some 13) rfl rfl Tryz.func44 (by kernel_rfl) rfl #[.int .i64 (wrap64 (a1 - 1))] rfl (by (try simp only [List.map_toArray, List.map_cons, List.map_nil]); first | done | rfl | (simp only [List.length_drop, List.length_take]; rfl)) ?_; (with_reducible refine (gaolerref01_Pow.calls k (wrap64 (a1 - 1)) t163 _ A4.out).mono ?_); rintro e w' ⟨rfl, ⟨nd, rfl⟩⟩; refine ⟨_, rfl, ?_⟩) | ((with_reducible refine gate_callee (f := 44) rfl ?_); refine goesL_ (some 18) rfl rfl Tryz.func44 (by kernel_rfl) rfl #[.int .i64 a1] rfl (by (try simp only [List.map_toArray, List.map_cons, List.map_nil]); first | done | rfl | (simp only [List.length_drop, List.length_take]; rfl)) ?_; (with_reducible refine (gaolerref01_Pow.calls k a1 t164 _ A6.out).mono ?_); rintro e w' ⟨rfl, ⟨nd, rfl⟩⟩; refine ⟨_, rfl, ?_⟩))
    go_ret
    exact ⟨by first | rfl | (simp; done) | (simp [*]; done), by repeat (first | exact Drawn0.refl _ | apply Drawn0.step)⟩
  · rw [if_neg c5] at H
    have c5b0 : decide ((wrap64 (t163)) ≤ (wrap64 (t162))) = false := decide_eq_false c5
    clear c5
    obtain rfl := Option.some.inj H
    go_enter Tryz.func20, Tryz.ntmps20
    go_wp2_with (first | ((with_reducible refine gate_callee (f := 43) rfl ?_); refine goesL_ (some 8) rfl rfl Tryz.func43 (by kernel_rfl) rfl #[.int .u32 a0, .int .i64 0, .int .i64 a1] rfl (by (try simp only [List.map_toArray, List.map_cons, List.map_nil]); first | done | rfl | (simp only [List.length_drop, List.length_take]; rfl)) ?_; (with_reducible refine (gaolerref01_Field.calls k a0 0 a1 t162 _ A3.out).mono ?_); rintro e w' ⟨rfl, ⟨nd, rfl⟩⟩; refine ⟨_, rfl, ?_⟩) | ((with_reducible refine gate_callee (f := 44) rfl ?_); refine goesL_ (some 13) rfl rfl Tryz.func44 (by kernel_rfl) rfl #[.int .i64 (wrap64 (a1 - 1))] rfl (by (try simp only [List.map_toArray, List.map_cons, List.map_nil]); first | done | rfl | (simp only [List.length_drop, List.length_take]; rfl)) ?_; (with_reducible refine (gaolerref01_Pow.calls k (wrap64 (a1 - 1)) t163 _ A4.out).mono ?_); rintro e w' ⟨rfl, ⟨nd, rfl⟩⟩; refine ⟨_, rfl, ?_⟩))
    go_ret
    exact ⟨by first | rfl | (simp; done) | (simp [*]; done), by repeat (first | exact Drawn0.refl _ | apply Drawn0.step)⟩

/-! ### gaolerref02_reg: function 56 -/
def gaolerref02_reg.f (a0 : Int) (a1 : Bool) : Option (Bool) := if a1 = true then (if a0 ≥ 0 then (some (decide (a0 ≤ 15))) else (some false)) else (some (a0 == 0))
set_option maxHeartbeats 8000000 in
set_option maxRecDepth 100000 in
theorem gaolerref02_reg.calls (a0 : Int) (a1 : Bool) (r : Bool) (w : World) (h : gaolerref02_reg.f a0 a1 = some r) :
    Calls Tryz.prog 56 #[.int .i64 a0, .bool a1] w fun e w' => e = .returned (.bool r) ∧ Drawn0 w w' := by
  have H : (if a1 = true then (if a0 ≥ 0 then (some (decide (a0 ≤ 15))) else (some false)) else (some (a0 == 0))) = some r := h
  clear h
  by_cases c3 : a1 = true
  · subst c3
    have H1 : (if a0 ≥ 0 then (some (decide (a0 ≤ 15))) else (some false)) = some r := by rw [if_pos rfl] at H; exact H
    clear H
    have H := H1
    clear H1
    by_cases c4 : a0 ≥ 0
    · rw [if_pos c4] at H
      have c4b0 : decide (0 ≤ a0) = true := decide_eq_true c4
      clear c4
      obtain rfl := Option.some.inj H
      go_enter Tryz.func56, Tryz.ntmps56
      go_wp2
      go_ret
      exact ⟨by first | rfl | (simp; done) | (simp [*]; done), by repeat (first | exact Drawn0.refl _ | apply Drawn0.step)⟩
    · rw [if_neg c4] at H
      have c4b0 : decide (0 ≤ a0) = false := decide_eq_false c4
      clear c4
      obtain rfl := Option.some.inj H
      go_enter Tryz.func56, Tryz.ntmps56
      go_wp2
      go_ret
      exact ⟨by first | rfl | (simp; done) | (simp [*]; done), by repeat (first | exact Drawn0.refl _ | apply Drawn0.step)⟩
  · replace c3 := Bool.eq_false_iff.mpr c3
    subst c3
    have H1 : (some (a0 == 0)) = some r := by rw [if_neg (show ¬ (false = true) by decide)] at H; exact H
    clear H
    have H := H1
    clear H1
    obtain rfl := Option.some.inj H
    go_enter Tryz.func56, Tryz.ntmps56
    go_wp2
    go_ret
    exact ⟨by first | rfl | (simp; done) | (simp [*]; done), by repeat (first | exact Drawn0.refl _ | apply Drawn0.step)⟩

/-! ### gaolerref01_Fits: function 57 -/
def gaolerref01_Fits.f (k : Nat) (a0 : Int) (a1 : Int) : Option (Bool) := (gaolerref01_Pow.f k (wrap64 (a1 - 1))).bind fun t165 => (if (wrap64 (a0)) ≥ (wrap64 (-(wrap64 (t165)))) then (some (decide ((wrap64 (a0)) < (wrap64 (t165))))) else (some false))
theorem gaolerref01_Fits.mono : ∀ a0 a1 k, LeO (gaolerref01_Fits.f k a0 a1) (gaolerref01_Fits.f (k + 1) a0 a1) := by
  intro a0 a1 k
  unfold gaolerref01_Fits.f
  repeat' first
      | (with_reducible exact gaolerref01_Pow.mono _ _)
      | (with_reducible exact LeO.refl _)
      | (with_reducible exact LeO.none _)
      | (with_reducible refine LeO.ite ?_ ?_)
      | (with_reducible refine LeO.bind ?_ (fun _ => ?_))
      | exact gaolerref01_Pow.mono _ _
      | exact LeO.none _
      | refine LeO.ite ?_ ?_
      | refine LeO.bind ?_ (fun _ => ?_)
set_option maxHeartbeats 8000000 in
set_option maxRecDepth 100000 in
theorem gaolerref01_Fits.calls (k : Nat) (a0 : Int) (a1 : Int) (r : Bool) (w : World) (h : gaolerref01_Fits.f k a0 a1 = some r) :
    Calls Tryz.prog 57 #[.int .i32 a0, .int .i64 a1] w fun e w' => e = .returned (.bool r) ∧ Drawn0 w w' := by
  have H : ((gaolerref01_Pow.f k (wrap64 (a1 - 1))).bind fun t165 => (if (wrap64 (a0)) ≥ (wrap64 (-(wrap64 (t165)))) then (some (decide ((wrap64 (a0)) < (wrap64 (t165))))) else (some false))) = some r := h
  clear h
  replace H := Option.bind_eq_some_iff.mp H
  obtain ⟨t165, A30, H⟩ := H
  replace H : (if (wrap64 (a0)) ≥ (wrap64 (-(wrap64 (t165)))) then (some (decide ((wrap64 (a0)) < (wrap64 (t165))))) else (some false)) = some r := H
  have A3 := Aside0.mk A30
  clear A30
  by_cases c4 : (wrap64 (a0)) ≥ (wrap64 (-(wrap64 (t165))))
  · rw [if_pos c4] at H
    have c4b0 : decide ((wrap64 (-(wrap64 (t165)))) ≤ (wrap64 (a0))) = true := decide_eq_true c4
    clear c4
    obtain rfl := Option.some.inj H
    go_enter Tryz.func57, Tryz.ntmps57
    go_wp2_with (first | ((with_reducible refine gate_callee (f := 44) rfl ?_); refine goesL_ (some 8) rfl rfl Tryz.func44 (by kernel_rfl) rfl #[.int .i64 (wrap64 (a1 - 1))] rfl (by (try simp only [List.map_toArray, List.map_cons, List.map_nil]); first | done | rfl | (simp only [List.length_drop, List.length_take]; rfl)) ?_; (with_reducible refine (gaolerref01_Pow.calls k (wrap64 (a1 - 1)) t165 _ A3.out).mono ?_); rintro e w' ⟨rfl, ⟨nd, rfl⟩⟩; refine ⟨_, rfl, ?_⟩))
    go_ret
    exact ⟨by first | rfl | (simp; done) | (simp [*]; done), by repeat (first | exact Drawn0.refl _ | apply Drawn0.step)⟩
  · rw [if_neg c4] at H
    have c4b0 : decide ((wrap64 (-(wrap64 (t165)))) ≤ (wrap64 (a0))) = false := decide_eq_false c4
    clear c4
    obtain rfl := Option.some.inj H
    go_enter Tryz.func57, Tryz.ntmps57
    go_wp2_with (first | ((with_reducible refine gate_callee (f := 44) rfl ?_); refine goesL_ (some 8) rfl rfl Tryz.func44 (by kernel_rfl) rfl #[.int .i64 (wrap64 (a1 - 1))] rfl (by (try simp only [List.map_toArray, List.map_cons, List.map_nil]); first | done | rfl | (simp only [List.length_drop, List.length_take]; rfl)) ?_; (with_reducible refine (gaolerref01_Pow.calls k (wrap64 (a1 - 1)) t165 _ A3.out).mono ?_); rintro e w' ⟨rfl, ⟨nd, rfl⟩⟩; refine ⟨_, rfl, ?_⟩))
    go_ret
    exact ⟨by first | rfl | (simp; done) | (simp [*]; done), by repeat (first | exact Drawn0.refl _ | apply Drawn0.step)⟩

end Go.Proofs.YtihnglgknncgpaaGreatDoor.PAsmEveryWordHasOneLine
