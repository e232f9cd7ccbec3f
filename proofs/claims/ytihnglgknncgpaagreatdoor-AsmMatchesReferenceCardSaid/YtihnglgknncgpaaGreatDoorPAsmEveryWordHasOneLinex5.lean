-- PRINTED BY print.sh 35421559b90ae4d0a3588c463048766b98c2df88dd9212a6774a882060cdf62d: not written by this session
import Derived.Test.YtihnglgknncgpaaGreatDoorPAsmEveryWordHasOneLinex0
namespace Go.Proofs.YtihnglgknncgpaaGreatDoor.PAsmEveryWordHasOneLine
open Go.RowKit Go.Proofs.YtihnglgknncgpaaGreatDoorW.PrintWords Go.Proofs.YtihnglgknncgpaaGreatDoorW.PrintLast Go.Proofs.YtihnglgknncgpaaGreatDoorW.PrintMore
attribute [local go_sem] max2_int min2_int max_two min_two max_three min_three max_four min_four   -- for this text's walks alone
set_option linter.unusedVariables false
set_option linter.unusedSimpArgs false

/-! ### gaolerref02_Form: function 19 -/
mutual
def gaolerref02_Form.j0 : Nat → Int → Bool → Option (Int)
  | 0, _, _ => none
  | k + 1, x3, x4 => if x4 = true then (some 1) else (if x3 = 9 then (gaolerref02_Form.j1 k x3 (x3 == 9)) else (if x3 = 11 then (gaolerref02_Form.j1 k x3 (x3 == 11)) else (if x3 = 12 then (gaolerref02_Form.j1 k x3 (x3 == 12)) else (if x3 = 13 then (gaolerref02_Form.j1 k x3 (x3 == 13)) else (if x3 = 14 then (gaolerref02_Form.j1 k x3 (x3 == 14)) else (if x3 = 15 then (gaolerref02_Form.j1 k x3 (x3 == 15)) else (if x3 = 16 then (gaolerref02_Form.j1 k x3 (x3 == 16)) else (if x3 = 17 then (gaolerref02_Form.j1 k x3 (x3 == 17)) else (gaolerref02_Form.j1 k x3 (x3 == 19))))))))))
def gaolerref02_Form.j1 : Nat → Int → Bool → Option (Int)
  | 0, _, _ => none
  | k + 1, x3, x13 => if x13 = true then (some 2) else (if x3 = 10 then (gaolerref02_Form.j2 k x3 (x3 == 10)) else (gaolerref02_Form.j2 k x3 (x3 == 18)))
def gaolerref02_Form.j2 : Nat → Int → Bool → Option (Int)
  | 0, _, _ => none
  | k + 1, x3, x23 => if x23 = true then (some 3) else (if x3 = 20 then (gaolerref02_Form.j3 k x3 (x3 == 20)) else (if x3 = 23 then (gaolerref02_Form.j3 k x3 (x3 == 23)) else (gaolerref02_Form.j3 k x3 (x3 == 24))))
def gaolerref02_Form.j3 : Nat → Int → Bool → Option (Int)
  | 0, _, _ => none
  | k + 1, x3, x26 => if x26 = true then (some 4) else (if x3 = 21 then (some 5) else (if x3 = 22 then (some 6) else (if x3 = 25 then (some 7) else (some 0))))
end
def gaolerref02_Form.f (k : Nat) (a0 : Int) : Option (Int) := if a0 = 1 then (gaolerref02_Form.j0 k a0 (a0 == 1)) else (if a0 = 2 then (gaolerref02_Form.j0 k a0 (a0 == 2)) else (if a0 = 3 then (gaolerref02_Form.j0 k a0 (a0 == 3)) else (if a0 = 4 then (gaolerref02_Form.j0 k a0 (a0 == 4)) else (if a0 = 5 then (gaolerref02_Form.j0 k a0 (a0 == 5)) else (if a0 = 6 then (gaolerref02_Form.j0 k a0 (a0 == 6)) else (if a0 = 7 then (gaolerref02_Form.j0 k a0 (a0 == 7)) else (gaolerref02_Form.j0 k a0 (a0 == 8))))))))
theorem gaolerref02_Form.mono_l : ∀ k, (∀ y0 y1, LeO (gaolerref02_Form.j0 k y0 y1) (gaolerref02_Form.j0 (k + 1) y0 y1)) ∧ (∀ y0 y1, LeO (gaolerref02_Form.j1 k y0 y1) (gaolerref02_Form.j1 (k + 1) y0 y1)) ∧ (∀ y0 y1, LeO (gaolerref02_Form.j2 k y0 y1) (gaolerref02_Form.j2 (k + 1) y0 y1)) ∧ (∀ y0 y1, LeO (gaolerref02_Form.j3 k y0 y1) (gaolerref02_Form.j3 (k + 1) y0 y1))
  | 0 => ⟨fun _ _ r h => by simp [gaolerref02_Form.j0] at h, fun _ _ r h => by simp [gaolerref02_Form.j1] at h, fun _ _ r h => by simp [gaolerref02_Form.j2] at h, fun _ _ r h => by simp [gaolerref02_Form.j3] at h⟩
  | k + 1 => by
    obtain ⟨ih0, ih1, ih2, ih3⟩ := gaolerref02_Form.mono_l k
    refine ⟨?_, ?_, ?_, ?_⟩
    · intro y0 y1
      unfold gaolerref02_Form.j0
      repeat' first
      | (with_reducible exact ih0 _ _)
      | (with_reducible exact ih1 _ _)
      | (with_reducible exact ih2 _ _)
      | (with_reducible exact ih3 _ _)
      | (with_reducible exact LeO.refl _)
      | (with_reducible exact LeO.none _)
      | (with_reducible refine LeO.ite ?_ ?_)
      | (with_reducible refine LeO.bind ?_ (fun _ => ?_))
      | exact ih0 _ _
      | exact ih1 _ _
      | exact ih2 _ _
      | exact ih3 _ _
      | exact LeO.none _
      | refine LeO.ite ?_ ?_
      | refine LeO.bind ?_ (fun _ => ?_)
    · intro y0 y1
      unfold gaolerref02_Form.j1
      repeat' first
      | (with_reducible exact ih0 _ _)
      | (with_reducible exact ih1 _ _)
      | (with_reducible exact ih2 _ _)
      | (with_reducible exact ih3 _ _)
      | (with_reducible exact LeO.refl _)
      | (with_reducible exact LeO.none _)
      | (with_reducible refine LeO.ite ?_ ?_)
      | (with_reducible refine LeO.bind ?_ (fun _ => ?_))
      | exact ih0 _ _
      | exact ih1 _ _
      | exact ih2 _ _
      | exact ih3 _ _
      | exact LeO.none _
      | refine LeO.ite ?_ ?_
      | refine LeO.bind ?_ (fun _ => ?_)
    · intro y0 y1
      unfold gaolerref02_Form.j2
      repeat' first
      | (with_reducible exact ih0 _ _)
      | (with_reducible exact ih1 _ _)
      | (with_reducible exact ih2 _ _)
      | (with_reducible exact ih3 _ _)
      | (with_reducible exact LeO.refl _)
      | (with_reducible exact LeO.none _)
      | (with_reducible refine LeO.ite ?_ ?_)
      | (with_reducible refine LeO.bind ?_ (fun _ => ?_))
      | exact ih0 _ _
      | exact ih1 _ _
      | exact ih2 _ _
      | exact ih3 _ _
      | exact LeO.none _
      | refine LeO.ite ?_ ?_
      | refine LeO.bind ?_ (fun _ => ?_)
    · intro y0 y1
      unfold gaolerref02_Form.j3
      repeat' first
      | (with_reducible exact ih0 _ _)
      | (with_reducible exact ih1 _ _)
      | (with_reducible exact ih2 _ _)
      | (with_reducible exact ih3 _ _)
      | (with_reducible exact LeO.refl _)
      | (with_reducible exact LeO.none _)
      | (with_reducible refine LeO.ite ?_ ?_)
      | (with_reducible refine LeO.bind ?_ (fun _ => ?_))
      | exact ih0 _ _
      | exact ih1 _ _
      | exact ih2 _ _
      | exact ih3 _ _
      | exact LeO.none _
      | refine LeO.ite ?_ ?_
      | refine LeO.bind ?_ (fun _ => ?_)
theorem gaolerref02_Form.mono : ∀ a0 k, LeO (gaolerref02_Form.f k a0) (gaolerref02_Form.f (k + 1) a0) := by
  intro a0 k
  obtain ⟨ih0, ih1, ih2, ih3⟩ := gaolerref02_Form.mono_l k
  unfold gaolerref02_Form.f
  repeat' first
      | (with_reducible exact ih0 _ _)
      | (with_reducible exact ih1 _ _)
      | (with_reducible exact ih2 _ _)
      | (with_reducible exact ih3 _ _)
      | (with_reducible exact LeO.refl _)
      | (with_reducible exact LeO.none _)
      | (with_reducible refine LeO.ite ?_ ?_)
      | (with_reducible refine LeO.bind ?_ (fun _ => ?_))
      | exact ih0 _ _
      | exact ih1 _ _
      | exact ih2 _ _
      | exact ih3 _ _
      | exact LeO.none _
      | refine LeO.ite ?_ ?_
      | refine LeO.bind ?_ (fun _ => ?_)
set_option maxHeartbeats 8000000 in
set_option maxRecDepth 100000 in
theorem gaolerref02_Form.calls (k : Nat) (a0 : Int) (r : Int) (w : World) (h : gaolerref02_Form.f k a0 = some r) :
    Calls Tryz.prog 19 #[.int .i64 a0] w fun e w' => e = .returned (.int .i64 r) ∧ Drawn0 w w' := by
  have H : (if a0 = 1 then (gaolerref02_Form.j0 k a0 (a0 == 1)) else (if a0 = 2 then (gaolerref02_Form.j0 k a0 (a0 == 2)) else (if a0 = 3 then (gaolerref02_Form.j0 k a0 (a0 == 3)) else (if a0 = 4 then (gaolerref02_Form.j0 k a0 (a0 == 4)) else (if a0 = 5 then (gaolerref02_Form.j0 k a0 (a0 == 5)) else (if a0 = 6 then (gaolerref02_Form.j0 k a0 (a0 == 6)) else (if a0 = 7 then (gaolerref02_Form.j0 k a0 (a0 == 7)) else (gaolerref02_Form.j0 k a0 (a0 == 8))))))))) = some r := h
  clear h
  have HC2 := Aside0.mk H
  clear H
  go_enter Tryz.func19, Tryz.ntmps19
  go_upto_if 4 with (fail)
  go_cut [4] (fun v4 wc => ∃ (kq : Nat) (x4_1 : Bool), v4 = .bool x4_1 ∧ Aside0 (gaolerref02_Form.j0 kq a0 x4_1 = some r) ∧ Aside0 (kq ≤ k) ∧ Drawn0 w wc)
  case first =>
    have H := HC2.out
    clear HC2
    by_cases c3 : a0 = 1
    · rw [if_pos c3] at H
      have c3b0 : (a0 == 1) = true := beq_iff_eq.mpr c3
      have c3b1 : (a0 != 1) = false := bne_eq_false_iff_eq.mpr c3
      clear c3
      (first | rw [c3b0] | (simp only [i64_w, i32_w]; rw [c3b0]) | skip)
      have H' := Aside0.mk H
      clear H
      go_wp2
      go_meet
      case rel => exact ⟨_, ((a0 == 1)), (by first | rfl | (simp; done) | (simp [*]; done)), H', ⟨by first | omega | exact Nat.le_refl _⟩, by repeat (first | exact Drawn0.refl _ | apply Drawn0.step)⟩
    · rw [if_neg c3] at H
      have c3b0 : (a0 == 1) = false := beq_eq_false_iff_ne.mpr c3
      have c3b1 : (a0 != 1) = true := bne_iff_ne.mpr c3
      (first | rw [c3b0] | (simp only [i64_w, i32_w]; rw [c3b0]) | skip)
      by_cases c4 : a0 = 2
      · rw [if_pos c4] at H
        have c4b0 : (a0 == 2) = true := beq_iff_eq.mpr c4
        have c4b1 : (a0 != 2) = false := bne_eq_false_iff_eq.mpr c4
        clear c4
        have H' := Aside0.mk H
        clear H
        go_wp2
        go_meet
        case rel => exact ⟨_, ((a0 == 2)), (by first | rfl | (simp; done) | (simp [*]; done)), H', ⟨by first | omega | exact Nat.le_refl _⟩, by repeat (first | exact Drawn0.refl _ | apply Drawn0.step)⟩
      · rw [if_neg c4] at H
        have c4b0 : (a0 == 2) = false := beq_eq_false_iff_ne.mpr c4
        have c4b1 : (a0 != 2) = true := bne_iff_ne.mpr c4
        by_cases c5 : a0 = 3
        · rw [if_pos c5] at H
          have c5b0 : (a0 == 3) = true := beq_iff_eq.mpr c5
          have c5b1 : (a0 != 3) = false := bne_eq_false_iff_eq.mpr c5
          clear c5
          have H' := Aside0.mk H
          clear H
          go_wp2
          go_meet
          case rel => exact ⟨_, ((a0 == 3)), (by first | rfl | (simp; done) | (simp [*]; done)), H', ⟨by first | omega | exact Nat.le_refl _⟩, by repeat (first | exact Drawn0.refl _ | apply Drawn0.step)⟩
        · rw [if_neg c5] at H
          have c5b0 : (a0 == 3) = false := beq_eq_false_iff_ne.mpr c5
          have c5b1 : (a0 != 3) = true := bne_iff_ne.mpr c5
          by_cases c6 : a0 = 4
          · rw [if_pos c6] at H
            have c6b0 : (a0 == 4) = true := beq_iff_eq.mpr c6
            have c6b1 : (a0 != 4) = false := bne_eq_false_iff_eq.mpr c6
            clear c6
            have H' := Aside0.mk H
            clear H
            go_wp2
            go_meet
            case rel => exact ⟨_, ((a0 == 4)), (by first | rfl | (simp; done) | (simp [*]; done)), H', ⟨by first | omega | exact Nat.le_refl _⟩, by repeat (first | exact Drawn0.refl _ | apply Drawn0.step)⟩
          · rw [if_neg c6] at H
            have c6b0 : (a0 == 4) = false := beq_eq_false_iff_ne.mpr c6
            have c6b1 : (a0 != 4) = true := bne_iff_ne.mpr c6
            by_cases c7 : a0 = 5
            · rw [if_pos c7] at H
              have c7b0 : (a0 == 5) = true := beq_iff_eq.mpr c7
              have c7b1 : (a0 != 5) = false := bne_eq_false_iff_eq.mpr c7
              clear c7
              have H' := Aside0.mk H
              clear H
              go_wp2
              go_meet
              case rel => exact ⟨_, ((a0 == 5)), (by first | rfl | (simp; done) | (simp [*]; done)), H', ⟨by first | omega | exact Nat.le_refl _⟩, by repeat (first | exact Drawn0.refl _ | apply Drawn0.step)⟩
            · rw [if_neg c7] at H
              have c7b0 : (a0 == 5) = false := beq_eq_false_iff_ne.mpr c7
              have c7b1 : (a0 != 5) = true := bne_iff_ne.mpr c7
              by_cases c8 : a0 = 6
              · rw [if_pos c8] at H
                have c8b0 : (a0 == 6) = true := beq_iff_eq.mpr c8
                have c8b1 : (a0 != 6) = false := bne_eq_false_iff_eq.mpr c8
                clear c8
                have H' := Aside0.mk H
                clear H
                go_wp2
                go_meet
                case rel => exact ⟨_, ((a0 == 6)), (by first | rfl | (simp; done) | (simp [*]; done)), H', ⟨by first | omega | exact Nat.le_refl _⟩, by repeat (first | exact Drawn0.refl _ | apply Drawn0.step)⟩
              · rw [if_neg c8] at H
                have c8b0 : (a0 == 6) = false := beq_eq_false_iff_ne.mpr c8
                have c8b1 : (a0 != 6) = true := bne_iff_ne.mpr c8
                by_cases c9 : a0 = 7
                · rw [if_pos c9] at H
                  have c9b0 : (a0 == 7) = true := beq_iff_eq.mpr c9
                  have c9b1 : (a0 != 7) = false := bne_eq_false_iff_eq.mpr c9
                  clear c9
                  have H' := Aside0.mk H
                  clear H
                  go_wp2
                  go_meet
                  case rel => exact ⟨_, ((a0 == 7)), (by first | rfl | (simp; done) | (simp [*]; done)), H', ⟨by first | omega | exact Nat.le_refl _⟩, by repeat (first | exact Drawn0.refl _ | apply Drawn0.step)⟩
                · rw [if_neg c9] at H
                  have c9b0 : (a0 == 7) = false := beq_eq_false_iff_ne.mpr c9
                  have c9b1 : (a0 != 7) = true := bne_iff_ne.mpr c9
                  have H' := Aside0.mk H
                  clear H
                  go_wp2
                  go_meet
                  case rel => exact ⟨_, ((a0 == 8)), (by first | rfl | (simp; done) | (simp [*]; done)), H', ⟨by first | omega | exact Nat.le_refl _⟩, by repeat (first | exact Drawn0.refl _ | apply Drawn0.step)⟩
  case rest =>
    clear HC2
    try clear c1
    try clear p2
    try clear c3
    try clear c3b0
    try clear c3b1
    try clear c4
    try clear c4b0
    try clear c4b1
    try clear c5
    try clear c5b0
    try clear c5b1
    try clear c6
    try clear c6b0
    try clear c6b1
    try clear c7
    try clear c7b0
    try clear c7b1
    try clear c8
    try clear c8b0
    try clear c8b1
    try clear c9
    try clear c9b0
    try clear c9b1
    obtain ⟨kq, x4_1, rfl, HA, HJ1, ⟨mc1, rfl⟩⟩ := hcut
    cases kq with
    | zero => exact absurd HA.out (by simp [gaolerref02_Form.j0])
    | succ kj1 =>
      have H := HA.out
      clear HA
      simp only [gaolerref02_Form.j0] at H
      by_cases c10 : x4_1 = true
      · subst c10
        have H1 : (some 1) = some r := by rw [if_pos rfl] at H; exact H
        clear H
        have H := H1
        clear H1
        obtain rfl := Option.some.inj H
        go_wp2
        go_ret
        exact ⟨by first | rfl | (simp; done) | (simp [*]; done), by repeat (first | exact Drawn0.refl _ | apply Drawn0.step)⟩
      · replace c10 := Bool.eq_false_iff.mpr c10
        subst c10
        have H1 : (if a0 = 9 then (gaolerref02_Form.j1 kj1 a0 (a0 == 9)) else (if a0 = 11 then (gaolerref02_Form.j1 kj1 a0 (a0 == 11)) else (if a0 = 12 then (gaolerref02_Form.j1 kj1 a0 (a0 == 12)) else (if a0 = 13 then (gaolerref02_Form.j1 kj1 a0 (a0 == 13)) else (if a0 = 14 then (gaolerref02_Form.j1 kj1 a0 (a0 == 14)) else (if a0 = 15 then (gaolerref02_Form.j1 kj1 a0 (a0 == 15)) else (if a0 = 16 then (gaolerref02_Form.j1 kj1 a0 (a0 == 16)) else (if a0 = 17 then (gaolerref02_Form.j1 kj1 a0 (a0 == 17)) else (gaolerref02_Form.j1 kj1 a0 (a0 == 19)))))))))) = some r := by rw [if_neg (show ¬ (false = true) by decide)] at H; exact H
        clear H
        have H := H1
        clear H1
        have HC11 := Aside0.mk H
        clear H
        go_upto_if 13 with (fail)
        go_cut [13] (fun v13 wc => ∃ (kq : Nat) (x13_10 : Bool), v13 = .bool x13_10 ∧ Aside0 (gaolerref02_Form.j1 kq a0 x13_10 = some r) ∧ Aside0 (kq ≤ kj1) ∧ Drawn0 w wc)
        case first =>
          have H := HC11.out
          clear HC11
          by_cases c12 : a0 = 9
          · rw [if_pos c12] at H
            have c12b0 : (a0 == 9) = true := beq_iff_eq.mpr c12
            have c12b1 : (a0 != 9) = false := bne_eq_false_iff_eq.mpr c12
            clear c12
            (first | rw [c12b0] | (simp only [i64_w, i32_w]; rw [c12b0]) | skip)
            have H' := Aside0.mk H
            clear H
            go_wp2
            go_meet
            case rel => exact ⟨_, ((a0 == 9)), (by first | rfl | (simp; done) | (simp [*]; done)), H', ⟨by have := HJ1.out; first | omega | exact Nat.le_refl _⟩, by repeat (first | exact Drawn0.refl _ | apply Drawn0.step)⟩
          · rw [if_neg c12] at H
            have c12b0 : (a0 == 9) = false := beq_eq_false_iff_ne.mpr c12
            have c12b1 : (a0 != 9) = true := bne_iff_ne.mpr c12
            (first | rw [c12b0] | (simp only [i64_w, i32_w]; rw [c12b0]) | skip)
            by_cases c13 : a0 = 11
            · rw [if_pos c13] at H
              have c13b0 : (a0 == 11) = true := beq_iff_eq.mpr c13
              have c13b1 : (a0 != 11) = false := bne_eq_false_iff_eq.mpr c13
              clear c13
              have H' := Aside0.mk H
              clear H
              go_wp2
              go_meet
              case rel => exact ⟨_, ((a0 == 11)), (by first | rfl | (simp; done) | (simp [*]; done)), H', ⟨by have := HJ1.out; first | omega | exact Nat.le_refl _⟩, by repeat (first | exact Drawn0.refl _ | apply Drawn0.step)⟩
            · rw [if_neg c13] at H
              have c13b0 : (a0 == 11) = false := beq_eq_false_iff_ne.mpr c13
              have c13b1 : (a0 != 11) = true := bne_iff_ne.mpr c13
              by_cases c14 : a0 = 12
              · rw [if_pos c14] at H
                have c14b0 : (a0 == 12) = true := beq_iff_eq.mpr c14
                have c14b1 : (a0 != 12) = false := bne_eq_false_iff_eq.mpr c14
                clear c14
                have H' := Aside0.mk H
                clear H
                go_wp2
                go_meet
                case rel => exact ⟨_, ((a0 == 12)), (by first | rfl | (simp; done) | (simp [*]; done)), H', ⟨by have := HJ1.out; first | omega | exact Nat.le_refl _⟩, by repeat (first | exact Drawn0.refl _ | apply Drawn0.step)⟩
              · rw [if_neg c14] at H
                have c14b0 : (a0 == 12) = false := beq_eq_false_iff_ne.mpr c14
                have c14b1 : (a0 != 12) = true := bne_iff_ne.mpr c14
                by_cases c15 : a0 = 13
                · rw [if_pos c15] at H
                  have c15b0 : (a0 == 13) = true := beq_iff_eq.mpr c15
                  have c15b1 : (a0 != 13) = false := bne_eq_false_iff_eq.mpr c15
                  clear c15
                  have H' := Aside0.mk H
                  clear H
                  go_wp2
                  go_meet
                  case rel => exact ⟨_, ((a0 == 13)), (by first | rfl | (simp; done) | (simp [*]; done)), H', ⟨by have := HJ1.out; first | omega | exact Nat.le_refl _⟩, by repeat (first | exact Drawn0.refl _ | apply Drawn0.step)⟩
                · rw [if_neg c15] at H
                  have c15b0 : (a0 == 13) = false := beq_eq_false_iff_ne.mpr c15
                  have c15b1 : (a0 != 13) = true := bne_iff_ne.mpr c15
                  by_cases c16 : a0 = 14
                  · rw [if_pos c16] at H
                    have c16b0 : (a0 == 14) = true := beq_iff_eq.mpr c16
                    have c16b1 : (a0 != 14) = false := bne_eq_false_iff_eq.mpr c16
                    clear c16
                    have H' := Aside0.mk H
                    clear H
                    go_wp2
                    go_meet
                    case rel => exact ⟨_, ((a0 == 14)), (by first | rfl | (simp; done) | (simp [*]; done)), H', ⟨by have := HJ1.out; first | omega | exact Nat.le_refl _⟩, by repeat (first | exact Drawn0.refl _ | apply Drawn0.step)⟩
                  · rw [if_neg c16] at H
                    have c16b0 : (a0 == 14) = false := beq_eq_false_iff_ne.mpr c16
                    have c16b1 : (a0 != 14) = true := bne_iff_ne.mpr c16
                    by_cases c17 : a0 = 15
                    · rw [if_pos c17] at H
                      have c17b0 : (a0 == 15) = true := beq_iff_eq.mpr c17
                      have c17b1 : (a0 != 15) = false := bne_eq_false_iff_eq.mpr c17
                      clear c17
                      have H' := Aside0.mk H
                      clear H
                      go_wp2
                      go_meet
                      case rel => exact ⟨_, ((a0 == 15)), (by first | rfl | (simp; done) | (simp [*]; done)), H', ⟨by have := HJ1.out; first | omega | exact Nat.le_refl _⟩, by repeat (first | exact Drawn0.refl _ | apply Drawn0.step)⟩
                    · rw [if_neg c17] at H
                      have c17b0 : (a0 == 15) = false := beq_eq_false_iff_ne.mpr c17
                      have c17b1 : (a0 != 15) = true := bne_iff_ne.mpr c17
                      by_cases c18 : a0 = 16
                      · rw [if_pos c18] at H
                        have c18b0 : (a0 == 16) = true := beq_iff_eq.mpr c18
                        have c18b1 : (a0 != 16) = false := bne_eq_false_iff_eq.mpr c18
                        clear c18
                        have H' := Aside0.mk H
                        clear H
                        go_wp2
                        go_meet
                        case rel => exact ⟨_, ((a0 == 16)), (by first | rfl | (simp; done) | (simp [*]; done)), H', ⟨by have := HJ1.out; first | omega | exact Nat.le_refl _⟩, by repeat (first | exact Drawn0.refl _ | apply Drawn0.step)⟩
                      · rw [if_neg c18] at H
                        have c18b0 : (a0 == 16) = false := beq_eq_false_iff_ne.mpr c18
                        have c18b1 : (a0 != 16) = true := bne_iff_ne.mpr c18
                        by_cases c19 : a0 = 17
                        · rw [if_pos c19] at H
                          have c19b0 : (a0 == 17) = true := beq_iff_eq.mpr c19
                          have c19b1 : (a0 != 17) = false := bne_eq_false_iff_eq.mpr c19
                          clear c19
                          have H' := Aside0.mk H
                          clear H
                          go_wp2
                          go_meet
                          case rel => exact ⟨_, ((a0 == 17)), (by first | rfl | (simp; done) | (simp [*]; done)), H', ⟨by have := HJ1.out; first | omega | exact Nat.le_refl _⟩, by repeat (first | exact Drawn0.refl _ | apply Drawn0.step)⟩
                        · rw [if_neg c19] at H
                          have c19b0 : (a0 == 17) = false := beq_eq_false_iff_ne.mpr c19
                          have c19b1 : (a0 != 17) = true := bne_iff_ne.mpr c19
                          have H' := Aside0.mk H
                          clear H
                          go_wp2
                          go_meet
                          case rel => exact ⟨_, ((a0 == 19)), (by first | rfl | (simp; done) | (simp [*]; done)), H', ⟨by have := HJ1.out; first | omega | exact Nat.le_refl _⟩, by repeat (first | exact Drawn0.refl _ | apply Drawn0.step)⟩
        case rest =>
          clear HC11
          try clear c1
          try clear p2
          try clear c3
          try clear c3b0
          try clear c3b1
          try clear c4
          try clear c4b0
          try clear c4b1
          try clear c5
          try clear c5b0
          try clear c5b1
          try clear c6
          try clear c6b0
          try clear c6b1
          try clear c7
          try clear c7b0
          try clear c7b1
          try clear c8
          try clear c8b0
          try clear c8b1
          try clear c9
          try clear c9b0
          try clear c9b1
          try clear c10
          try clear c12
          try clear c12b0
          try clear c12b1
          try clear c13
          try clear c13b0
          try clear c13b1
          try clear c14
          try clear c14b0
          try clear c14b1
          try clear c15
          try clear c15b0
          try clear c15b1
          try clear c16
          try clear c16b0
          try clear c16b1
          try clear c17
          try clear c17b0
          try clear c17b1
          try clear c18
          try clear c18b0
          try clear c18b1
          try clear c19
          try clear c19b0
          try clear c19b1
          try clear p2
          obtain ⟨kq, x13_10, rfl, HA, HJ10, ⟨mc10, rfl⟩⟩ := hcut
          cases kq with
          | zero => exact absurd HA.out (by simp [gaolerref02_Form.j1])
          | succ kj10 =>
            have H := HA.out
            clear HA
            simp only [gaolerref02_Form.j1] at H
            by_cases c20 : x13_10 = true
            · subst c20
              have H1 : (some 2) = some r := by rw [if_pos rfl] at H; exact H
              clear H
              have H := H1
              clear H1
              obtain rfl := Option.some.inj H
              go_wp2
              go_ret
              exact ⟨by first | rfl | (simp; done) | (simp [*]; done), by repeat (first | exact Drawn0.refl _ | apply Drawn0.step)⟩
            · replace c20 := Bool.eq_false_iff.mpr c20
              subst c20
              have H1 : (if a0 = 10 then (gaolerref02_Form.j2 kj10 a0 (a0 == 10)) else (gaolerref02_Form.j2 kj10 a0 (a0 == 18))) = some r := by rw [if_neg (show ¬ (false = true) by decide)] at H; exact H
              clear H
              have H := H1
              clear H1
              have HC21 := Aside0.mk H
              clear H
              go_upto_if 23 with (fail)
              go_cut [23] (fun v23 wc => ∃ (kq : Nat) (x23_20 : Bool), v23 = .bool x23_20 ∧ Aside0 (gaolerref02_Form.j2 kq a0 x23_20 = some r) ∧ Aside0 (kq ≤ kj10) ∧ Drawn0 w wc)
              case first =>
                have H := HC21.out
                clear HC21
                by_cases c22 : a0 = 10
                · rw [if_pos c22] at H
                  have c22b0 : (a0 == 10) = true := beq_iff_eq.mpr c22
                  have c22b1 : (a0 != 10) = false := bne_eq_false_iff_eq.mpr c22
                  clear c22
                  (first | rw [c22b0] | (simp only [i64_w, i32_w]; rw [c22b0]) | skip)
                  have H' := Aside0.mk H
                  clear H
                  go_wp2
                  go_meet
                  case rel => exact ⟨_, ((a0 == 10)), (by first | rfl | (simp; done) | (simp [*]; done)), H', ⟨by have := HJ1.out; have := HJ10.out; first | omega | exact Nat.le_refl _⟩, by repeat (first | exact Drawn0.refl _ | apply Drawn0.step)⟩
                · rw [if_neg c22] at H
                  have c22b0 : (a0 == 10) = false := beq_eq_false_iff_ne.mpr c22
                  have c22b1 : (a0 != 10) = true := bne_iff_ne.mpr c22
                  (first | rw [c22b0] | (simp only [i64_w, i32_w]; rw [c22b0]) | skip)
                  have H' := Aside0.mk H
                  clear H
                  go_wp2
                  go_meet
                  case rel => exact ⟨_, ((a0 == 18)), (by first | rfl | (simp; done) | (simp [*]; done)), H', ⟨by have := HJ1.out; have := HJ10.out; first | omega | exact Nat.le_refl _⟩, by repeat (first | exact Drawn0.refl _ | apply Drawn0.step)⟩
              case rest =>
                clear HC21
                try clear c1
                try clear c2
                try clear p2
                try clear c3
                try clear c3b0
                try clear c3b1
                try clear c4
                try clear c4b0
                try clear c4b1
                try clear c5
                try clear c5b0
                try clear c5b1
                try clear c6
                try clear c6b0
                try clear c6b1
                try clear c7
                try clear c7b0
                try clear c7b1
                try clear c8
                try clear c8b0
                try clear c8b1
                try clear c9
                try clear c9b0
                try clear c9b1
                try clear c10
                try clear c12
                try clear c12b0
                try clear c12b1
                try clear c13
                try clear c13b0
                try clear c13b1
                try clear c14
                try clear c14b0
                try clear c14b1
                try clear c15
                try clear c15b0
                try clear c15b1
                try clear c16
                try clear c16b0
                try clear c16b1
                try clear c17
                try clear c17b0
                try clear c17b1
                try clear c18
                try clear c18b0
                try clear c18b1
                try clear c19
                try clear c19b0
                try clear c19b1
                try clear c20
                try clear c22
                try clear c22b0
                try clear c22b1
                try clear p2
                obtain ⟨kq, x23_20, rfl, HA, HJ20, ⟨mc20, rfl⟩⟩ := hcut
                cases kq with
                | zero => exact absurd HA.out (by simp [gaolerref02_Form.j2])
                | succ kj20 =>
                  have H := HA.out
                  clear HA
                  simp only [gaolerref02_Form.j2] at H
                  by_cases c23 : x23_20 = true
                  · subst c23
                    have H1 : (some 3) = some r := by rw [if_pos rfl] at H; exact H
                    clear H
                    have H := H1
                    clear H1
                    obtain rfl := Option.some.inj H
                    go_wp2
                    go_ret
                    exact ⟨by first | rfl | (simp; done) | (simp [*]; done), by repeat (first | exact Drawn0.refl _ | apply Drawn0.step)⟩
                  · replace c23 := Bool.eq_false_iff.mpr c23
                    subst c23
                    have H1 : (if a0 = 20 then (gaolerref02_Form.j3 kj20 a0 (a0 == 20)) else (if a0 = 23 then (gaolerref02_Form.j3 kj20 a0 (a0 == 23)) else (gaolerref02_Form.j3 kj20 a0 (a0 == 24)))) = some r := by rw [if_neg (show ¬ (false = true) by decide)] at H; exact H
                    clear H
                    have H := H1
                    clear H1
                    have HC24 := Aside0.mk H
                    clear H
                    go_upto_if 26 with (fail)
                    go_cut [26] (fun v26 wc => ∃ (kq : Nat) (x26_23 : Bool), v26 = .bool x26_23 ∧ Aside0 (gaolerref02_Form.j3 kq a0 x26_23 = some r) ∧ Aside0 (kq ≤ kj20) ∧ Drawn0 w wc)
                    case first =>
                      have H := HC24.out
                      clear HC24
                      by_cases c25 : a0 = 20
                      · rw [if_pos c25] at H
                        have c25b0 : (a0 == 20) = true := beq_iff_eq.mpr c25
                        have c25b1 : (a0 != 20) = false := bne_eq_false_iff_eq.mpr c25
                        clear c25
                        (first | rw [c25b0] | (simp only [i64_w, i32_w]; rw [c25b0]) | skip)
                        have H' := Aside0.mk H
                        clear H
                        go_wp2
                        go_meet
                        case rel => exact ⟨_, ((a0 == 20)), (by first | rfl | (simp; done) | (simp [*]; done)), H', ⟨by have := HJ1.out; have := HJ10.out; have := HJ20.out; first | omega | exact Nat.le_refl _⟩, by repeat (first | exact Drawn0.refl _ | apply Drawn0.step)⟩
                      · rw [if_neg c25] at H
                        have c25b0 : (a0 == 20) = false := beq_eq_false_iff_ne.mpr c25
                        have c25b1 : (a0 != 20) = true := bne_iff_ne.mpr c25
                        (first | rw [c25b0] | (simp only [i64_w, i32_w]; rw [c25b0]) | skip)
                        by_cases c26 : a0 = 23
                        · rw [if_pos c26] at H
                          have c26b0 : (a0 == 23) = true := beq_iff_eq.mpr c26
                          have c26b1 : (a0 != 23) = false := bne_eq_false_iff_eq.mpr c26
                          clear c26
                          have H' := Aside0.mk H
                          clear H
                          go_wp2
                          go_meet
                          case rel => exact ⟨_, ((a0 == 23)), (by first | rfl | (simp; done) | (simp [*]; done)), H', ⟨by have := HJ1.out; have := HJ10.out; have := HJ20.out; first | omega | exact Nat.le_refl _⟩, by repeat (first | exact Drawn0.refl _ | apply Drawn0.step)⟩
                        · rw [if_neg c26] at H
                          have c26b0 : (a0 == 23) = false := beq_eq_false_iff_ne.mpr c26
                          have c26b1 : (a0 != 23) = true := bne_iff_ne.mpr c26
                          have H' := Aside0.mk H
                          clear H
                          go_wp2
                          go_meet
                          case rel => exact ⟨_, ((a0 == 24)), (by first | rfl | (simp; done) | (simp [*]; done)), H', ⟨by have := HJ1.out; have := HJ10.out; have := HJ20.out; first | omega | exact Nat.le_refl _⟩, by repeat (first | exact Drawn0.refl _ | apply Drawn0.step)⟩
                    case rest =>
                      clear HC24
                      try clear c1
                      try clear c2
                      try clear p2
                      try clear c3
                      try clear c3b0
                      try clear c3b1
                      try clear c4
                      try clear c4b0
                      try clear c4b1
                      try clear c5
                      try clear c5b0
                      try clear c5b1
                      try clear c6
                      try clear c6b0
                      try clear c6b1
                      try clear c7
                      try clear c7b0
                      try clear c7b1
                      try clear c8
                      try clear c8b0
                      try clear c8b1
                      try clear c9
                      try clear c9b0
                      try clear c9b1
                      try clear c10
                      try clear c12
                      try clear c12b0
                      try clear c12b1
                      try clear c13
                      try clear c13b0
                      try clear c13b1
                      try clear c14
                      try clear c14b0
                      try clear c14b1
                      try clear c15
                      try clear c15b0
                      try clear c15b1
                      try clear c16
                      try clear c16b0
                      try clear c16b1
                      try clear c17
                      try clear c17b0
                      try clear c17b1
                      try clear c18
                      try clear c18b0
                      try clear c18b1
                      try clear c19
                      try clear c19b0
                      try clear c19b1
                      try clear c20
                      try clear c22
                      try clear c22b0
                      try clear c22b1
                      try clear c23
                      try clear c25
                      try clear c25b0
                      try clear c25b1
                      try clear c26
                      try clear c26b0
                      try clear c26b1
                      try clear p2
                      obtain ⟨kq, x26_23, rfl, HA, HJ23, ⟨mc23, rfl⟩⟩ := hcut
                      cases kq with
                      | zero => exact absurd HA.out (by simp [gaolerref02_Form.j3])
                      | succ kj23 =>
                        have H := HA.out
                        clear HA
                        simp only [gaolerref02_Form.j3] at H
                        by_cases c27 : x26_23 = true
                        · subst c27
                          have H1 : (some 4) = some r := by rw [if_pos rfl] at H; exact H
                          clear H
                          have H := H1
                          clear H1
                          obtain rfl := Option.some.inj H
                          go_wp2
                          go_ret
                          exact ⟨by first | rfl | (simp; done) | (simp [*]; done), by repeat (first | exact Drawn0.refl _ | apply Drawn0.step)⟩
                        · replace c27 := Bool.eq_false_iff.mpr c27
                          subst c27
                          have H1 : (if a0 = 21 then (some 5) else (if a0 = 22 then (some 6) else (if a0 = 25 then (some 7) else (some 0)))) = some r := by rw [if_neg (show ¬ (false = true) by decide)] at H; exact H
                          clear H
                          have H := H1
                          clear H1
                          by_cases c28 : a0 = 21
                          · rw [if_pos c28] at H
                            have c28b0 : (a0 == 21) = true := beq_iff_eq.mpr c28
                            have c28b1 : (a0 != 21) = false := bne_eq_false_iff_eq.mpr c28
                            clear c28
                            obtain rfl := Option.some.inj H
                            go_wp2
                            go_ret
                            exact ⟨by first | rfl | (simp; done) | (simp [*]; done), by repeat (first | exact Drawn0.refl _ | apply Drawn0.step)⟩
                          · rw [if_neg c28] at H
                            have c28b0 : (a0 == 21) = false := beq_eq_false_iff_ne.mpr c28
                            have c28b1 : (a0 != 21) = true := bne_iff_ne.mpr c28
                            by_cases c29 : a0 = 22
                            · rw [if_pos c29] at H
                              have c29b0 : (a0 == 22) = true := beq_iff_eq.mpr c29
                              have c29b1 : (a0 != 22) = false := bne_eq_false_iff_eq.mpr c29
                              clear c29
                              obtain rfl := Option.some.inj H
                              go_wp2
                              go_ret
                              exact ⟨by first | rfl | (simp; done) | (simp [*]; done), by repeat (first | exact Drawn0.refl _ | apply Drawn0.step)⟩
                            · rw [if_neg c29] at H
                              have c29b0 : (a0 == 22) = false := beq_eq_false_iff_ne.mpr c29
                              have c29b1 : (a0 != 22) = true := bne_iff_ne.mpr c29
                              by_cases c30 : a0 = 25
                              · rw [if_pos c30] at H
                                have c30b0 : (a0 == 25) = true := beq_iff_eq.mpr c30
                                have c30b1 : (a0 != 25) = false := bne_eq_false_iff_eq.mpr c30
                                clear c30
                                obtain rfl := Option.some.inj H
                                go_wp2
                                go_ret
                                exact ⟨by first | rfl | (simp; done) | (simp [*]; done), by repeat (first | exact Drawn0.refl _ | apply Drawn0.step)⟩
                              · rw [if_neg c30] at H
                                have c30b0 : (a0 == 25) = false := beq_eq_false_iff_ne.mpr c30
                                have c30b1 : (a0 != 25) = true := bne_iff_ne.mpr c30
                                obtain rfl := Option.some.inj H
                                go_wp2
                                go_ret
                                exact ⟨by first | rfl | (simp; done) | (simp [*]; done), by repeat (first | exact Drawn0.refl _ | apply Drawn0.step)⟩

/-! ### gaolerref01_Pow: function 44 -/
def gaolerref01_Pow.l0 : Nat → Int → Int → Int → Option (Int)
  | 0, _, _, _ => none
  | k + 1, x0, x3, x4 => if x4 < x0 then (gaolerref01_Pow.l0 k x0 (IntKind.u64.wrap (x3 * 2)) (wrap64 (x4 + 1))) else (some x3)
def gaolerref01_Pow.f (k : Nat) (a0 : Int) : Option (Int) := gaolerref01_Pow.l0 k a0 1 0
theorem gaolerref01_Pow.mono_l : ∀ k, (∀ y0 y1 y2, LeO (gaolerref01_Pow.l0 k y0 y1 y2) (gaolerref01_Pow.l0 (k + 1) y0 y1 y2))
  | 0 => fun _ _ _ r h => by simp [gaolerref01_Pow.l0] at h
  | k + 1 => by
    have ih0 := gaolerref01_Pow.mono_l k
    · intro y0 y1 y2
      unfold gaolerref01_Pow.l0
      repeat' first
      | (with_reducible exact ih0 _ _ _)
      | (with_reducible exact LeO.refl _)
      | (with_reducible exact LeO.none _)
      | (with_reducible refine LeO.ite ?_ ?_)
      | (with_reducible refine LeO.bind ?_ (fun _ => ?_))
      | exact ih0 _ _ _
      | exact LeO.none _
      | refine LeO.ite ?_ ?_
      | refine LeO.bind ?_ (fun _ => ?_)
theorem gaolerref01_Pow.mono : ∀ a0 k, LeO (gaolerref01_Pow.f k a0) (gaolerref01_Pow.f (k + 1) a0) := by
  intro a0 k
  have ih0 := gaolerref01_Pow.mono_l k
  unfold gaolerref01_Pow.f
  repeat' first
      | (with_reducible exact ih0 _ _ _)
      | (with_reducible exact LeO.refl _)
      | (with_reducible exact LeO.none _)
      | (with_reducible refine LeO.ite ?_ ?_)
      | (with_reducible refine LeO.bind ?_ (fun _ => ?_))
      | exact ih0 _ _ _
      | exact LeO.none _
      | refine LeO.ite ?_ ?_
      | refine LeO.bind ?_ (fun _ => ?_)
set_option maxHeartbeats 8000000 in
set_option maxRecDepth 100000 in
theorem gaolerref01_Pow.calls (k : Nat) (a0 : Int) (r : Int) (w : World) (h : gaolerref01_Pow.f k a0 = some r) :
    Calls Tryz.prog 44 #[.int .i64 a0] w fun e w' => e = .returned (.int .u64 r) ∧ Drawn0 w w' := by
  have H : (gaolerref01_Pow.l0 k a0 1 0) = some r := h
  clear h
  have H' := Aside0.mk H
  clear H
  go_enter Tryz.func44, Tryz.ntmps44
  go_wp2
  go_loopg [3, 4] k (fun kq v3 v4 w' => ∃ (x3_1 : Int) (x4_1 : Int), v3 = .int .u64 x3_1 ∧ v4 = .int .i64 x4_1 ∧ Aside0 (gaolerref01_Pow.l0 kq a0 x3_1 x4_1 = some r) ∧ Aside0 (kq ≤ k) ∧ Drawn0 w w')
  case atStart => exact ⟨(1), (0), (by first | rfl | (simp; done) | (simp [*]; done)), (by first | rfl | (simp; done) | (simp [*]; done)), H', ⟨Nat.le_refl _⟩, by repeat (first | exact Drawn0.refl _ | apply Drawn0.step)⟩
  case round =>
    clear H'
    obtain ⟨x3_1, x4_1, rfl, rfl, HA, HK1, ⟨m1, rfl⟩⟩ := hrel
    cases gk with
    | zero => exact absurd HA.out (by simp [gaolerref01_Pow.l0])
    | succ k1 =>
      have H := HA.out
      clear HA
      simp only [gaolerref01_Pow.l0] at H
      by_cases c2 : x4_1 < a0
      · rw [if_pos c2] at H
        have c2b0 : decide (x4_1 < a0) = true := decide_eq_true c2
        clear c2
        have H' := Aside0.mk H
        clear H
        go_wp2
        go_roundg k1
        case measure => have := HK1.out; omega
        case rel => exact ⟨(IntKind.u64.wrap (x3_1 * 2)), (wrap64 (x4_1 + 1)), (by first | rfl | (simp; done) | (simp [*]; done)), (by first | rfl | (simp; done) | (simp [*]; done)), H', ⟨by have := HK1.out; omega⟩, by repeat (first | exact Drawn0.refl _ | apply Drawn0.step)⟩
      · rw [if_neg c2] at H
        have c2b0 : decide (x4_1 < a0) = false := decide_eq_false c2
        clear c2
        obtain rfl := Option.some.inj H
        go_wp2
        go_ret
        exact ⟨by first | rfl | (simp; done) | (simp [*]; done), by repeat (first | exact Drawn0.refl _ | apply Drawn0.step)⟩

/-! ### gaolerref01_Field: function 43 -/
def gaolerref01_Field.f (k : Nat) (a0 : Int) (a1 : Int) (a2 : Int) : Option (Int) := (gaolerref01_Pow.f k a1).bind fun t160 => (if t160 = 0 then (none) else ((gaolerref01_Pow.f k a2).bind fun t161 => (if t161 = 0 then (none) else (some ((Int.tmod (IntKind.u64.wrap (Int.tdiv (IntKind.u64.wrap (a0)) t160)) t161) % 4294967296)))))
theorem gaolerref01_Field.mono : ∀ a0 a1 a2 k, LeO (gaolerref01_Field.f k a0 a1 a2) (gaolerref01_Field.f (k + 1) a0 a1 a2) := by
  intro a0 a1 a2 k
  unfold gaolerref01_Field.f
  repeat' first
      | (with_reducible exact gaolerref01_Pow.mono _ _)
      | (with_reducible exact LeO.refl _)
      | (with_reducible exact LeO.none _)
      | (with_reducible refine LeO.ite ?_ ?_)
      | (with_reducible refine LeO.bind ?_ (fun _ => ?_))
      | exact gaolerref01_Pow.mono _ _
      | exact LeO.none _
      | refine LeO.ite ?_ ?_
      | refine LeO.bind ?_ (fun _ => ?_)
set_option maxHeartbeats 8000000 in
set_option maxRecDepth 100000 in
theorem gaolerref01_Field.calls (k : Nat) (a0 : Int) (a1 : Int) (a2 : Int) (r : Int) (w : World) (h : gaolerref01_Field.f k a0 a1 a2 = some r) :
    Calls Tryz.prog 43 #[.int .u32 a0, .int .i64 a1, .int .i64 a2] w fun e w' => e = .returned (.int .u32 r) ∧ Drawn0 w w' := by
  have H : ((gaolerref01_Pow.f k a1).bind fun t160 => (if t160 = 0 then (none) else ((gaolerref01_Pow.f k a2).bind fun t161 => (if t161 = 0 then (none) else (some ((Int.tmod (IntKind.u64.wrap (Int.tdiv (IntKind.u64.wrap (a0)) t160)) t161) % 4294967296)))))) = some r := h
  clear h
  replace H := Option.bind_eq_some_iff.mp H
  obtain ⟨t160, A40, H⟩ := H
  replace H : (if t160 = 0 then (none) else ((gaolerref01_Pow.f k a2).bind fun t161 => (if t161 = 0 then (none) else (some ((Int.tmod (IntKind.u64.wrap (Int.tdiv (IntKind.u64.wrap (a0)) t160)) t161) % 4294967296))))) = some r := H
  have A4 := Aside0.mk A40
  clear A40
  by_cases c5 : t160 = 0
  · rw [if_pos c5] at H
    exact absurd H (by simp)
  · rw [if_neg c5] at H
    have c5b0 : (t160 == 0) = false := beq_eq_false_iff_ne.mpr c5
    have c5b1 : (t160 != 0) = true := bne_iff_ne.mpr c5
    replace H := Option.bind_eq_some_iff.mp H
    obtain ⟨t161, A60, H⟩ := H
    replace H : (if t161 = 0 then (none) else (some ((Int.tmod (IntKind.u64.wrap (Int.tdiv (IntKind.u64.wrap (a0)) t160)) t161) % 4294967296))) = some r := H
    have A6 := Aside0.mk A60
    clear A60
    by_cases c7 : t161 = 0
    · rw [if_pos c7] at H
      exact absurd H (by simp)
    · rw [if_neg c7] at H
      have c7b0 : (t161 == 0) = false := beq_eq_false_iff_ne.mpr c7
      have c7b1 : (t161 != 0) = true := bne_iff_ne.mpr c7
      obtain rfl := Option.some.inj H
      go_enter Tryz.func43, Tryz.ntmps43
      go_wp2_with (first | (go_at_call 44; (with_reducible refine (gaolerref01_Pow.calls k a1 t160 _ A4.out).mono ?_); rintro e w' ⟨rfl, ⟨nd, rfl⟩⟩; (try first | exact ⟨rfl, _, World.drewN_drewN _ _ _⟩ | exact ⟨rfl, _, Eq.trans (World.drewN_drewN _ _ _) (congrArg (World.drewN _) (Nat.add_assoc _ _ _))⟩)) | (go_at_call 44; (with_reducible refine (gaolerref01_Pow.calls k a2 t161 _ A6.out).mono ?_); rintro e w' ⟨rfl, ⟨nd, rfl⟩⟩; (try first | exact ⟨rfl, _, World.drewN_drewN _ _ _⟩ | exact ⟨rfl, _, Eq.trans (World.drewN_drewN _ _ _) (congrArg (World.drewN _) (Nat.add_assoc _ _ _))⟩)))
      repeat (go_quiet (first | (go_at_call 44; (with_reducible refine (gaolerref01_Pow.calls k a1 t160 _ A4.out).mono ?_); rintro e w' ⟨rfl, ⟨nd, rfl⟩⟩; (try first | exact ⟨rfl, _, World.drewN_drewN _ _ _⟩ | exact ⟨rfl, _, Eq.trans (World.drewN_drewN _ _ _) (congrArg (World.drewN _) (Nat.add_assoc _ _ _))⟩)) | (go_at_call 44; (with_reducible refine (gaolerref01_Pow.calls k a2 t161 _ A6.out).mono ?_); rintro e w' ⟨rfl, ⟨nd, rfl⟩⟩; (try first | exact ⟨rfl, _, World.drewN_drewN _ _ _⟩ | exact ⟨rfl, _, Eq.trans (World.drewN_drewN _ _ _) (congrArg (World.drewN _) (Nat.add_assoc _ _ _))⟩))); try go_wp2_with (first | (go_at_call 44; (with_reducible refine (gaolerref01_Pow.calls k a1 t160 _ A4.out).mono ?_); rintro e w' ⟨rfl, ⟨nd, rfl⟩⟩; (try first | exact ⟨rfl, _, World.drewN_drewN _ _ _⟩ | exact ⟨rfl, _, Eq.trans (World.drewN_drewN _ _ _) (congrArg (World.drewN _) (Nat.add_assoc _ _ _))⟩)) | (go_at_call 44; (with_reducible refine (gaolerref01_Pow.calls k a2 t161 _ A6.out).mono ?_); rintro e w' ⟨rfl, ⟨nd, rfl⟩⟩; (try first | exact ⟨rfl, _, World.drewN_drewN _ _ _⟩ | exact ⟨rfl, _, Eq.trans (World.drewN_drewN _ _ _) (congrArg (World.drewN _) (Nat.add_assoc _ _ _))⟩))))
      go_ret
      exact ⟨by first | rfl | (simp; done) | (simp [*]; done), by repeat (first | exact Drawn0.refl _ | apply Drawn0.step)⟩

end Go.Proofs.YtihnglgknncgpaaGreatDoor.PAsmEveryWordHasOneLine
