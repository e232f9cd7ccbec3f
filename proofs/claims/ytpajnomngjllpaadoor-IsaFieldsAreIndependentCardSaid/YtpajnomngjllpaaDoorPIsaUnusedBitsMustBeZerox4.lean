-- PRINTED BY print.sh 35421559b90ae4d0a3588c463048766b98c2df88dd9212a6774a882060cdf62d: not written by this session
import Derived.Test.YtpajnomngjllpaaDoorPIsaUnusedBitsMustBeZerox0
import Derived.Test.YtpajnomngjllpaaDoorPIsaUnusedBitsMustBeZerox2
namespace Go.Proofs.YtpajnomngjllpaaDoor.PIsaUnusedBitsMustBeZero
open Go.RowKit Go.Proofs.YtpajnomngjllpaaDoorW.PrintWords Go.Proofs.YtpajnomngjllpaaDoorW.PrintLast Go.Proofs.YtpajnomngjllpaaDoorW.PrintMore
attribute [local go_sem] max2_int min2_int max_two min_two max_three min_three max_four min_four   -- for this text's walks alone
set_option linter.unusedVariables false
set_option linter.unusedSimpArgs false

/-! ### gaolerref01_Field: function 20 -/
def gaolerref01_Field.f (k : Nat) (a0 : Int) (a1 : Int) (a2 : Int) : Option (Int) := (gaolerref01_Pow.f k a1).bind fun t134 => (if t134 = 0 then (none) else ((gaolerref01_Pow.f k a2).bind fun t135 => (if t135 = 0 then (none) else (some ((Int.tmod (IntKind.u64.wrap (Int.tdiv (IntKind.u64.wrap (a0)) t134)) t135) % 4294967296)))))
theorem gaolerref01_Field.mono : ∀ a0 a1 a2 k, LeO (gaolerref01_Field.f k a0 a1 a2) (gaolerref01_Field.f (k + 1) a0 a1 a2) := by
  intro a0 a1 a2 k
  unfold gaolerref01_Field.f
  repeat' first
      | (with_reducible exact gaolerref01_Pow.mono _ _)
      | (with_reducible exact LeO.refl _)
      | (with_reducible exact LeO.none _)
      | (with_reducible refine LeO.ite ?_ ?_)
      | (with_reducible refine LeO.bind ?_ (fun _ => ?_))
      | exact gaolerref01_Pow.mono _ _
      | exact LeO.none _
      | refine LeO.ite ?_ ?_
      | refine LeO.bind ?_ (fun _ => ?_)
set_option maxHeartbeats 8000000 in
set_option maxRecDepth 100000 in
theorem gaolerref01_Field.calls (k : Nat) (a0 : Int) (a1 : Int) (a2 : Int) (r : Int) (w : World) (h : gaolerref01_Field.f k a0 a1 a2 = some r) :
    Calls Tryd.prog 20 #[.int .u32 a0, .int .i64 a1, .int .i64 a2] w fun e w' => e = .returned (.int .u32 r) ∧ Drawn0 w w' := by
  have H : ((gaolerref01_Pow.f k a1).bind fun t134 => (if t134 = 0 then (none) else ((gaolerref01_Pow.f k a2).bind fun t135 => (if t135 = 0 then (none) else (some ((Int.tmod (IntKind.u64.wrap (Int.tdiv (IntKind.u64.wrap (a0)) t134)) t135) % 4294967296)))))) = some r := h
  clear h
  replace H := Option.bind_eq_some_iff.mp H
  obtain ⟨t134, A40, H⟩ := H
  replace H : (if t134 = 0 then (none) else ((gaolerref01_Pow.f k a2).bind fun t135 => (if t135 = 0 then (none) else (some ((Int.tmod (IntKind.u64.wrap (Int.tdiv (IntKind.u64.wrap (a0)) t134)) t135) % 4294967296))))) = some r := H
  have A4 := Aside0.mk A40
  clear A40
  by_cases c5 : t134 = 0
  · rw [if_pos c5] at H
    exact absurd H (by simp)
  · rw [if_neg c5] at H
    have c5b0 : (t134 == 0) = false := beq_eq_false_iff_ne.mpr c5
    have c5b1 : (t134 != 0) = true := bne_iff_ne.mpr c5
    replace H := Option.bind_eq_some_iff.mp H
    obtain ⟨t135, A60, H⟩ := H
    replace H : (if t135 = 0 then (none) else (some ((Int.tmod (IntKind.u64.wrap (Int.tdiv (IntKind.u64.wrap (a0)) t134)) t135) % 4294967296))) = some r := H
    have A6 := Aside0.mk A60
    clear A60
    by_cases c7 : t135 = 0
    · rw [if_pos c7] at H
      exact absurd H (by simp)
    · rw [if_neg c7] at H
      have c7b0 : (t135 == 0) = false := beq_eq_false_iff_ne.mpr c7
      have c7b1 : (t135 != 0) = true := bne_iff_ne.mpr c7
      obtain rfl := Option.some.inj H
      go_enter Tryd.func20, Tryd.ntmps20
      go_wp2_with (first | (go_at_call 31; (with_reducible refine (gaolerref01_Pow.calls k a1 t134 _ A4.out).mono ?_); rintro e w' ⟨rfl, ⟨nd, rfl⟩⟩; (try first | exact ⟨rfl, _, World.drewN_drewN _ _ _⟩ | exact ⟨rfl, _, Eq.trans (World.drewN_drewN _ _ _) (congrArg (World.drewN _) (Nat.add_assoc _ _ _))⟩)) | (go_at_call 31; (with_reducible refine (gaolerref01_Pow.calls k a2 t135 _ A6.out).mono ?_); rintro e w' ⟨rfl, ⟨nd, rfl⟩⟩; (try first | exact ⟨rfl, _, World.drewN_drewN _ _ _⟩ | exact ⟨rfl, _, Eq.trans (World.drewN_drewN _ _ _) (congrArg (World.drewN _) (Nat.add_assoc _ _ _))⟩)))
      repeat (go_quiet (first | (go_at_call 31; (with_reducible refine (gaolerref01_Pow.calls k a1 t134 _ A4.out).mono ?_); rintro e w' ⟨rfl, ⟨nd, rfl⟩⟩; (try first | exact ⟨rfl, _, World.drewN_drewN _ _ _⟩ | exact ⟨rfl, _, Eq.trans (World.drewN_drewN _ _ _) (congrArg (World.drewN _) (Nat.add_assoc _ _ _))⟩)) | (go_at_call 31; (with_reducible refine (gaolerref01_Pow.calls k a2 t135 _ A6.out).mono ?_); rintro e w' ⟨rfl, ⟨nd, rfl⟩⟩; (try first | exact ⟨rfl, _, World.drewN_drewN _ _ _⟩ | exact ⟨rfl, _, Eq.trans (World.drewN_drewN _ _ _) (congrArg (World.drewN _) (Nat.add_assoc _ _ _))⟩))); try go_wp2_with (first | (go_at_call 31; (with_reducible refine (gaolerref01_Pow.calls k a1 t134 _ A4.out).mono ?_); rintro e w' ⟨rfl, ⟨nd, rfl⟩⟩; (try first | exact ⟨rfl, _, World.drewN_drewN _ _ _⟩ | exact ⟨rfl, _, Eq.trans (World.drewN_drewN _ _ _) (congrArg (World.drewN _) (Nat.add_assoc _ _ _))⟩)) | (go_at_call 31; (with_reducible refine (gaolerref01_Pow.calls k a2 t135 _ A6.out).mono ?_); rintro e w' ⟨rfl, ⟨nd, rfl⟩⟩; (try first | exact ⟨rfl, _, World.drewN_drewN _ _ _⟩ | exact ⟨rfl, _, Eq.trans (World.drewN_drewN _ _ _) (congrArg (World.drewN _) (Nat.add_assoc _ _ _))⟩))))
      go_ret
      exact ⟨by first | rfl | (simp; done) | (simp [*]; done), by repeat (first | exact Drawn0.refl _ | apply Drawn0.step)⟩

/-! ### gaolerref01_Put: function 19 -/
mutual
def gaolerref01_Put.l0 : Nat → Int → Int → Int → Int → Int → Int → Option (Int)
  | 0, _, _, _, _, _, _ => none
  | k + 1, x0, x1, x2, x3, x9, x10 => if x10 < 32 then ((gaolerref01_Field.f k x0 x10 1).bind fun t136 => (if x10 ≥ x1 then (gaolerref01_Put.j1 k x0 x1 x2 x3 x9 x10 t136 (decide (x10 < (wrap64 (x1 + x2))))) else (gaolerref01_Put.j1 k x0 x1 x2 x3 x9 x10 t136 false))) else (some ((x9) % 4294967296))
def gaolerref01_Put.j1 : Nat → Int → Int → Int → Int → Int → Int → Int → Bool → Option (Int)
  | 0, _, _, _, _, _, _, _, _ => none
  | k + 1, x0, x1, x2, x3, x9, x10, x11, x28 => if x28 = true then ((gaolerref01_Field.f k x3 (wrap64 (x10 - x1)) 1).bind fun t137 => ((gaolerref01_Pow.f k x10).bind fun t138 => (gaolerref01_Put.l0 k x0 x1 x2 x3 (IntKind.u64.wrap (x9 + (IntKind.u64.wrap ((IntKind.u64.wrap (t137)) * t138)))) (wrap64 (x10 + 1))))) else ((gaolerref01_Pow.f k x10).bind fun t139 => (gaolerref01_Put.l0 k x0 x1 x2 x3 (IntKind.u64.wrap (x9 + (IntKind.u64.wrap ((IntKind.u64.wrap (x11)) * t139)))) (wrap64 (x10 + 1))))
end
def gaolerref01_Put.f (k : Nat) (a0 : Int) (a1 : Int) (a2 : Int) (a3 : Int) : Option (Int) := gaolerref01_Put.l0 k a0 a1 a2 a3 0 0
theorem gaolerref01_Put.mono_l : ∀ k, (∀ y0 y1 y2 y3 y4 y5, LeO (gaolerref01_Put.l0 k y0 y1 y2 y3 y4 y5) (gaolerref01_Put.l0 (k + 1) y0 y1 y2 y3 y4 y5)) ∧ (∀ y0 y1 y2 y3 y4 y5 y6 y7, LeO (gaolerref01_Put.j1 k y0 y1 y2 y3 y4 y5 y6 y7) (gaolerref01_Put.j1 (k + 1) y0 y1 y2 y3 y4 y5 y6 y7))
  | 0 => ⟨fun _ _ _ _ _ _ r h => by simp [gaolerref01_Put.l0] at h, fun _ _ _ _ _ _ _ _ r h => by simp [gaolerref01_Put.j1] at h⟩
  | k + 1 => by
    obtain ⟨ih0, ih1⟩ := gaolerref01_Put.mono_l k
    refine ⟨?_, ?_⟩
    · intro y0 y1 y2 y3 y4 y5
      unfold gaolerref01_Put.l0
      repeat' first
      | (with_reducible exact ih0 _ _ _ _ _ _)
      | (with_reducible exact ih1 _ _ _ _ _ _ _ _)
      | (with_reducible exact gaolerref01_Field.mono _ _ _ _)
      | (with_reducible exact gaolerref01_Pow.mono _ _)
      | (with_reducible exact LeO.refl _)
      | (with_reducible exact LeO.none _)
      | (with_reducible refine LeO.ite ?_ ?_)
      | (with_reducible refine LeO.bind ?_ (fun _ => ?_))
      | exact ih0 _ _ _ _ _ _
      | exact ih1 _ _ _ _ _ _ _ _
      | exact gaolerref01_Field.mono _ _ _ _
      | exact gaolerref01_Pow.mono _ _
      | exact LeO.none _
      | refine LeO.ite ?_ ?_
      | refine LeO.bind ?_ (fun _ => ?_)
    · intro y0 y1 y2 y3 y4 y5 y6 y7
      unfold gaolerref01_Put.j1
      repeat' first
      | (with_reducible exact ih0 _ _ _ _ _ _)
      | (with_reducible exact ih1 _ _ _ _ _ _ _ _)
      | (with_reducible exact gaolerref01_Field.mono _ _ _ _)
      | (with_reducible exact gaolerref01_Pow.mono _ _)
      | (with_reducible exact LeO.refl _)
      | (with_reducible exact LeO.none _)
      | (with_reducible refine LeO.ite ?_ ?_)
      | (with_reducible refine LeO.bind ?_ (fun _ => ?_))
      | exact ih0 _ _ _ _ _ _
      | exact ih1 _ _ _ _ _ _ _ _
      | exact gaolerref01_Field.mono _ _ _ _
      | exact gaolerref01_Pow.mono _ _
      | exact LeO.none _
      | refine LeO.ite ?_ ?_
      | refine LeO.bind ?_ (fun _ => ?_)
theorem gaolerref01_Put.mono : ∀ a0 a1 a2 a3 k, LeO (gaolerref01_Put.f k a0 a1 a2 a3) (gaolerref01_Put.f (k + 1) a0 a1 a2 a3) := by
  intro a0 a1 a2 a3 k
  obtain ⟨ih0, ih1⟩ := gaolerref01_Put.mono_l k
  unfold gaolerref01_Put.f
  repeat' first
      | (with_reducible exact ih0 _ _ _ _ _ _)
      | (with_reducible exact ih1 _ _ _ _ _ _ _ _)
      | (with_reducible exact gaolerref01_Field.mono _ _ _ _)
      | (with_reducible exact gaolerref01_Pow.mono _ _)
      | (with_reducible exact LeO.refl _)
      | (with_reducible exact LeO.none _)
      | (with_reducible refine LeO.ite ?_ ?_)
      | (with_reducible refine LeO.bind ?_ (fun _ => ?_))
      | exact ih0 _ _ _ _ _ _
      | exact ih1 _ _ _ _ _ _ _ _
      | exact gaolerref01_Field.mono _ _ _ _
      | exact gaolerref01_Pow.mono _ _
      | exact LeO.none _
      | refine LeO.ite ?_ ?_
      | refine LeO.bind ?_ (fun _ => ?_)
set_option maxHeartbeats 8000000 in
set_option maxRecDepth 100000 in
theorem gaolerref01_Put.calls (k : Nat) (a0 : Int) (a1 : Int) (a2 : Int) (a3 : Int) (r : Int) (w : World) (h : gaolerref01_Put.f k a0 a1 a2 a3 = some r) :
    Calls Tryd.prog 19 #[.int .u32 a0, .int .i64 a1, .int .i64 a2, .int .u32 a3] w fun e w' => e = .returned (.int .u32 r) ∧ Drawn0 w w' := by
  have H : (gaolerref01_Put.l0 k a0 a1 a2 a3 0 0) = some r := h
  clear h
  have H' := Aside0.mk H
  clear H
  go_enter Tryd.func19, Tryd.ntmps19
  go_wp2
  go_loopg [9, 10] k (fun kq v9 v10 w' => ∃ (x9_1 : Int) (x10_1 : Int), v9 = .int .u64 x9_1 ∧ v10 = .int .i64 x10_1 ∧ Aside0 (gaolerref01_Put.l0 kq a0 a1 a2 a3 x9_1 x10_1 = some r) ∧ Aside0 (kq ≤ k) ∧ Drawn0 w w')
  case atStart => exact ⟨(0), (0), (by first | rfl | (simp; done) | (simp [*]; done)), (by first | rfl | (simp; done) | (simp [*]; done)), H', ⟨Nat.le_refl _⟩, by repeat (first | exact Drawn0.refl _ | apply Drawn0.step)⟩
  case round =>
    clear H'
    try clear c1
    try clear p2
    obtain ⟨x9_1, x10_1, rfl, rfl, HA, HK1, ⟨m1, rfl⟩⟩ := hrel
    cases gk with
    | zero => exact absurd HA.out (by simp [gaolerref01_Put.l0])
    | succ k1 =>
      have H := HA.out
      clear HA
      simp only [gaolerref01_Put.l0] at H
      by_cases c5 : x10_1 < 32
      · rw [if_pos c5] at H
        have c5b0 : decide (x10_1 < 32) = true := decide_eq_true c5
        clear c5
        replace H := Option.bind_eq_some_iff.mp H
        obtain ⟨t136, A60, H⟩ := H
        replace H : (if x10_1 ≥ a1 then (gaolerref01_Put.j1 k1 a0 a1 a2 a3 x9_1 x10_1 t136 (decide (x10_1 < (wrap64 (a1 + a2))))) else (gaolerref01_Put.j1 k1 a0 a1 a2 a3 x9_1 x10_1 t136 false)) = some r := H
        have A6 := Aside0.mk A60
        clear A60
        have HC7 := Aside0.mk H
        clear H
        go_upto_region 6 with (first | ((with_reducible refine gate_callee (f := 20) rfl ?_); refine goesL_ (some 18) rfl rfl Tryd.func20 (by kernel_rfl) rfl #[.int .u32 a0, .int .i64 x10_1, .int .i64 1] rfl (by (try simp only [List.map_toArray, List.map_cons, List.map_nil]); first | done | rfl | (simp only [List.length_drop, List.length_take]; rfl)) ?_; (with_reducible refine (gaolerref01_Field.calls k1 a0 x10_1 1 t136 _ A6.out).mono ?_); rintro e w' ⟨rfl, ⟨nd, rfl⟩⟩; refine ⟨_, rfl, ?_⟩))
        (try simp only [Act.put, List.setIfInBounds_toArray, List.set_cons_zero, List.set_cons_succ])
        go_cut [28] (fun v28 wc => ∃ (kq : Nat) (x28_6 : Bool), v28 = .bool x28_6 ∧ Aside0 (gaolerref01_Put.j1 kq a0 a1 a2 a3 x9_1 x10_1 t136 x28_6 = some r) ∧ Aside0 (kq ≤ k1) ∧ Drawn0 w wc)
        case first =>
          have H := HC7.out
          clear HC7
          by_cases c8 : x10_1 ≥ a1
          · rw [if_pos c8] at H
            have c8b0 : decide (a1 ≤ x10_1) = true := decide_eq_true c8
            clear c8
            (first | rw [c8b0] | (simp only [i64_w, i32_w]; rw [c8b0]) | skip)
            have H' := Aside0.mk H
            clear H
            go_wp2
            go_meet
            case rel => exact ⟨_, (decide (x10_1 < (wrap64 (a1 + a2)))), (by first | rfl | (simp; done) | (simp [*]; done)), H', ⟨by have := HK1.out; first | omega | exact Nat.le_refl _⟩, by repeat (first | exact Drawn0.refl _ | apply Drawn0.step)⟩
          · rw [if_neg c8] at H
            have c8b0 : decide (a1 ≤ x10_1) = false := decide_eq_false c8
            clear c8
            (first | rw [c8b0] | (simp only [i64_w, i32_w]; rw [c8b0]) | skip)
            have H' := Aside0.mk H
            clear H
            go_wp2
            go_meet
            case rel => exact ⟨_, (false), (by first | rfl | (simp; done) | (simp [*]; done)), H', ⟨by have := HK1.out; first | omega | exact Nat.le_refl _⟩, by repeat (first | exact Drawn0.refl _ | apply Drawn0.step)⟩
        case rest =>
          clear HC7
          try clear c1
          try clear c2
          try clear p2
          try clear c5
          try clear c5b0
          try clear p6
          try clear c8
          try clear c8b0
          try clear p2
          obtain ⟨kq, x28_6, rfl, HA, HJ6, ⟨mc6, rfl⟩⟩ := hcut
          cases kq with
          | zero => exact absurd HA.out (by simp [gaolerref01_Put.j1])
          | succ kj6 =>
            have H := HA.out
            clear HA
            simp only [gaolerref01_Put.j1] at H
            by_cases c9 : x28_6 = true
            · subst c9
              have H1 : ((gaolerref01_Field.f kj6 a3 (wrap64 (x10_1 - a1)) 1).bind fun t137 => ((gaolerref01_Pow.f kj6 x10_1).bind fun t138 => (gaolerref01_Put.l0 kj6 a0 a1 a2 a3 (IntKind.u64.wrap (x9_1 + (IntKind.u64.wrap ((IntKind.u64.wrap (t137)) * t138)))) (wrap64 (x10_1 + 1))))) = some r := by rw [if_pos rfl] at H; exact H
              clear H
              have H := H1
              clear H1
              replace H := Option.bind_eq_some_iff.mp H
              obtain ⟨t137, A100, H⟩ := H
              replace H : ((gaolerref01_Pow.f kj6 x10_1).bind fun t138 => (gaolerref01_Put.l0 kj6 a0 a1 a2 a3 (IntKind.u64.wrap (x9_1 + (IntKind.u64.wrap ((IntKind.u64.wrap (t137)) * t138)))) (wrap64 (x10_1 + 1)))) = some r := H
              have A10 := Aside0.mk A100
              clear A100
              replace H := Option.bind_eq_some_iff.mp H
              obtain ⟨t138, A110, H⟩ := H
              replace H : (gaolerref01_Put.l0 kj6 a0 a1 a2 a3 (IntKind.u64.wrap (x9_1 + (IntKind.u64.wrap ((IntKind.u64.wrap (t137)) * t138)))) (wrap64 (x10_1 + 1))) = some r := H
              have A11 := Aside0.mk A110
              clear A110
              have H' := Aside0.mk H
              clear H
              go_wp2_with (first | ((with_reducible refine gate_callee (f := 20) rfl ?_); refine goesL_ (some 33) rfl rfl Tryd.func20 (by kernel_rfl) rfl #[.int .u32 a3, .int .i64 (wrap64 (x10_1 - a1)), .int .i64 1] rfl (by (try simp only [List.map_toArray, List.map_cons, List.map_nil]); first | done | rfl | (simp only [List.length_drop, List.length_take]; rfl)) ?_; (with_reducible refine (gaolerref01_Field.calls kj6 a3 (wrap64 (x10_1 - a1)) 1 t137 _ A10.out).mono ?_); rintro e w' ⟨rfl, ⟨nd, rfl⟩⟩; refine ⟨_, rfl, ?_⟩) | ((with_reducible refine gate_callee (f := 31) rfl ?_); refine goesL_ (some 38) rfl rfl Tryd.func31 (by kernel_rfl) rfl #[.int .i64 x10_1] rfl (by (try simp only [List.map_toArray, List.map_cons, List.map_nil]); first | done | rfl | (simp only [List.length_drop, List.length_take]; rfl)) ?_; (with_reducible refine (gaolerref01_Pow.calls kj6 x10_1 t138 _ A11.out).mono ?_); rintro e w' ⟨rfl, ⟨nd, rfl⟩⟩; refine ⟨_, rfl, ?_⟩))
              go_roundg kj6
              case measure => have := HK1.out; have := HJ6.out; omega
              case rel => exact ⟨(IntKind.u64.wrap (x9_1 + (IntKind.u64.wrap ((IntKind.u64.wrap (t137)) * t138)))), (wrap64 (x10_1 + 1)), (by first | rfl | (simp; done) | (simp [*]; done)), (by first | rfl | (simp; done) | (simp [*]; done)), H', ⟨by have := HK1.out; have := HJ6.out; omega⟩, by repeat (first | exact Drawn0.refl _ | apply Drawn0.step)⟩
            · replace c9 := Bool.eq_false_iff.mpr c9
              subst c9
              have H1 : ((gaolerref01_Pow.f kj6 x10_1).bind fun t139 => (gaolerref01_Put.l0 kj6 a0 a1 a2 a3 (IntKind.u64.wrap (x9_1 + (IntKind.u64.wrap ((IntKind.u64.wrap (t136)) * t139)))) (wrap64 (x10_1 + 1)))) = some r := by rw [if_neg (show ¬ (false = true) by decide)] at H; exact H
              clear H
              have H := H1
              clear H1
              replace H := Option.bind_eq_some_iff.mp H
              obtain ⟨t139, A120, H⟩ := H
              replace H : (gaolerref01_Put.l0 kj6 a0 a1 a2 a3 (IntKind.u64.wrap (x9_1 + (IntKind.u64.wrap ((IntKind.u64.wrap (t136)) * t139)))) (wrap64 (x10_1 + 1))) = some r := H
              have A12 := Aside0.mk A120
              clear A120
              have H' := Aside0.mk H
              clear H
              go_wp2_with (first | ((with_reducible refine gate_callee (f := 31) rfl ?_); refine goesL_ (some 38) rfl rfl Tryd.func31 (by kernel_rfl) rfl #[.int .i64 x10_1] rfl (by (try simp only [List.map_toArray, List.map_cons, List.map_nil]); first | done | rfl | (simp only [List.length_drop, List.length_take]; rfl)) ?_; (with_reducible refine (gaolerref01_Pow.calls kj6 x10_1 t139 _ A12.out).mono ?_); rintro e w' ⟨rfl, ⟨nd, rfl⟩⟩; refine ⟨_, rfl, ?_⟩))
              go_roundg kj6
              case measure => have := HK1.out; have := HJ6.out; omega
              case rel => exact ⟨(IntKind.u64.wrap (x9_1 + (IntKind.u64.wrap ((IntKind.u64.wrap (t136)) * t139)))), (wrap64 (x10_1 + 1)), (by first | rfl | (simp; done) | (simp [*]; done)), (by first | rfl | (simp; done) | (simp [*]; done)), H', ⟨by have := HK1.out; have := HJ6.out; omega⟩, by repeat (first | exact Drawn0.refl _ | apply Drawn0.step)⟩
      · rw [if_neg c5] at H
        have c5b0 : decide (x10_1 < 32) = false := decide_eq_false c5
        clear c5
        obtain rfl := Option.some.inj H
        go_wp2
        go_ret
        exact ⟨by first | rfl | (simp; done) | (simp [*]; done), by repeat (first | exact Drawn0.refl _ | apply Drawn0.step)⟩

-- NOT PRINTED: function 5 (gaolerlaw02_IsaUnusedBitsMustBeZero)

end Go.Proofs.YtpajnomngjllpaaDoor.PIsaUnusedBitsMustBeZero
