/- gaolerref02.May, walked; an instruction out of its word. -/
import Derived.Test.YtihnglgknncgpaaGreatDoorIsaW3
namespace Go.Proofs.YtihnglgknncgpaaGreatDoor.Isa
open Go Go.RowKit Go.Proofs.YtihnglgknncgpaaGreatDoor.PAsmEveryWordHasOneLine Go.Proofs.YtihnglgknncgpaaGreatDoorW.PrintWords Go.Proofs.YtihnglgknncgpaaGreatDoorW.PrintLast Go.Proofs.YtihnglgknncgpaaGreatDoorW.PrintMore Go.Proofs.YtihnglgknncgpaaGreatDoor.Bm
set_option linter.unusedVariables false
set_option linter.unusedSimpArgs false
theorem i_form (op : Int) : gaolerref02_Form.f 10 op = some (fmt op) := by
  by_cases h : 0 ≤ op ∧ op < 26
  · obtain ⟨n, rfl⟩ := Int.eq_ofNat_of_zero_le h.1
    have : ∀ n : Nat, n < 26 → gaolerref02_Form.f 10 (n : Int) = some (fmt (n : Int)) := by decide
    exact this n (by omega)
  · have hn : ∀ c : Int, 0 ≤ c → c < 26 → ¬ op = c := fun c h1 h2 e => h (by omega)
    have hb : ∀ c : Int, 0 ≤ c → c < 26 → (op == c) = false := fun c h1 h2 => beq_eq_false_iff_ne.2 (hn c h1 h2)
    unfold fmt
    rw [if_neg h]
    unfold gaolerref02_Form.f
    rw [if_neg (hn 1 (by omega) (by omega)), if_neg (hn 2 (by omega) (by omega)), if_neg (hn 3 (by omega) (by omega)), if_neg (hn 4 (by omega) (by omega)), if_neg (hn 5 (by omega) (by omega)), if_neg (hn 6 (by omega) (by omega)), if_neg (hn 7 (by omega) (by omega)), hb 8 (by omega) (by omega)]
    simp only [gaolerref02_Form.j0]
    rw [if_neg (by decide), if_neg (hn 9 (by omega) (by omega)), if_neg (hn 11 (by omega) (by omega)), if_neg (hn 12 (by omega) (by omega)), if_neg (hn 13 (by omega) (by omega)), if_neg (hn 14 (by omega) (by omega)), if_neg (hn 15 (by omega) (by omega)), if_neg (hn 16 (by omega) (by omega)), if_neg (hn 17 (by omega) (by omega)), hb 19 (by omega) (by omega)]
    simp only [gaolerref02_Form.j1]
    rw [if_neg (by decide), if_neg (hn 10 (by omega) (by omega)), hb 18 (by omega) (by omega)]
    simp only [gaolerref02_Form.j2]
    rw [if_neg (by decide), if_neg (hn 20 (by omega) (by omega)), if_neg (hn 23 (by omega) (by omega)), hb 24 (by omega) (by omega)]
    simp only [gaolerref02_Form.j3]
    rw [if_neg (by decide), if_neg (hn 21 (by omega) (by omega)), if_neg (hn 22 (by omega) (by omega)), if_neg (hn 25 (by omega) (by omega))]
theorem form_at (op f : Int) (w : World) (hf : fmt op = f) : Calls Tryz.prog 19 #[.int .i64 op] w fun e w' => e = .returned (.int .i64 f) ∧ ∃ n, w' = w.drewN n := by
  subst hf; exact (gaolerref02_Form.calls 10 _ _ _ (i_form op)).mono fun _ _ ⟨he, hd⟩ => ⟨he, hd.out⟩
theorem i_reg (n : Int) (b : Bool) : gaolerref02_reg.f n b = some (rg n b) := by
  unfold gaolerref02_reg.f rg
  cases b with
  | false => rw [if_neg (by decide)]; simp
  | true =>
    rw [if_pos rfl]
    by_cases h : n ≥ 0
    · rw [if_pos h]
      congr 1
      rw [Bool.eq_iff_iff]; simp; omega
    · rw [if_neg h]
      congr 1
      symm
      rw [Bool.eq_false_iff]; simp; omega
theorem reg_any (n : Int) (b : Bool) (w : World) : Calls Tryz.prog 56 #[.int .i64 n, .bool b] w fun e w' => e = .returned (.bool (rg n b)) ∧ ∃ n, w' = w.drewN n :=
  (gaolerref02_reg.calls _ _ _ _ (i_reg n b)).mono fun _ _ ⟨he, hd⟩ => ⟨he, hd.out⟩
def small (x : Int) : Prop := -2147483648 ≤ x ∧ x < 2147483648
theorem rfits_any (x : Int) (hx : small x) (w : World) : Calls Tryz.prog 57 #[.int .i32 x, .int .i64 18] w fun e w' => e = .returned (.bool (fits x 18)) ∧ ∃ n, w' = w.drewN n :=
  (gaolerref01_Fits.calls 50 _ _ _ _ (i_rfits 50 x 18 hx (by omega) (by omega) (by omega))).mono fun _ _ ⟨he, hd⟩ => ⟨he, hd.out⟩
theorem fits_zero : fits 0 18 = true := by decide
theorem may_eq_1 {op rd ra rb imm : Int} (hf : fmt op = 1) : vld ⟨op, rd, ra, rb, imm⟩ = (rg rd true && (rg ra true && (rg rb true && (imm == 0)))) := by
  rw [vld_1 hf]
  have z := fits_zero
  by_cases h0 : imm = 0
  · subst h0; simp [z, Bool.and_assoc]
  · rw [Bool.eq_iff_iff]
    simp [h0]
    try constructor
    all_goals (intros; simp [*]; try omega)
set_option maxRecDepth 100000 in
set_option maxHeartbeats 1000000 in
theorem may_1 (i : In) (w : World) (hx : small i.imm) (hf : fmt i.op = 1) :
    Calls Tryz.prog 32 #[i.v] w fun e w' => e = .returned (.bool (vld i)) ∧ Below w.heap.size w w' := by
  obtain ⟨op, rd, ra, rb, imm⟩ := i
  unfold In.v
  dsimp only at hf hx ⊢
  rw [may_eq_1 hf]
  have HF := Lib.hid hf; clear hf
  have HX := Lib.hid hx; clear hx
  go_enter Tryz.func32, Tryz.ntmps32
  go_wp2_with fail
  refine (form_at op 1 _ HF.out).mono ?_
  rintro e w' ⟨rfl, ⟨n0, rfl⟩⟩
  go_wp2_with (first | (go_at_call 57; refine (rfits_any _ HX.out _).mono ?_; rintro e w' ⟨rfl, ⟨nq, rfl⟩⟩) | (go_at_call 56; refine (reg_any _ _ _).mono ?_; rintro e w' ⟨rfl, ⟨nq, rfl⟩⟩))
  all_goals go_ret
  all_goals refine ⟨by first | (simp [*]; done) | (simp_all; done) | (simp [*]; intros; omega), ?_⟩
  all_goals repeat (first | exact Below.refl _ _ | refine bdrew ?_ _ | refine Below.alloc ?_ (by simp) _)
theorem may_eq_2 {op rd ra rb imm : Int} (hf : fmt op = 2) : vld ⟨op, rd, ra, rb, imm⟩ = (rg rd true && (rg ra true && (rg rb false && (fits imm 18)))) := by
  rw [vld_2 hf]
  have z := fits_zero
  by_cases h0 : imm = 0
  · subst h0; simp [z, Bool.and_assoc]
  · rw [Bool.eq_iff_iff]
    simp [h0]
    try constructor
    all_goals (intros; simp [*]; try omega)
set_option maxRecDepth 100000 in
set_option maxHeartbeats 1000000 in
theorem may_2 (i : In) (w : World) (hx : small i.imm) (hf : fmt i.op = 2) :
    Calls Tryz.prog 32 #[i.v] w fun e w' => e = .returned (.bool (vld i)) ∧ Below w.heap.size w w' := by
  obtain ⟨op, rd, ra, rb, imm⟩ := i
  unfold In.v
  dsimp only at hf hx ⊢
  rw [may_eq_2 hf]
  have HF := Lib.hid hf; clear hf
  have HX := Lib.hid hx; clear hx
  go_enter Tryz.func32, Tryz.ntmps32
  go_wp2_with fail
  refine (form_at op 2 _ HF.out).mono ?_
  rintro e w' ⟨rfl, ⟨n0, rfl⟩⟩
  go_wp2_with (first | (go_at_call 57; refine (rfits_any _ HX.out _).mono ?_; rintro e w' ⟨rfl, ⟨nq, rfl⟩⟩) | (go_at_call 56; refine (reg_any _ _ _).mono ?_; rintro e w' ⟨rfl, ⟨nq, rfl⟩⟩))
  all_goals go_ret
  all_goals refine ⟨by first | (simp [*]; done) | (simp_all; done) | (simp [*]; intros; omega), ?_⟩
  all_goals repeat (first | exact Below.refl _ _ | refine bdrew ?_ _ | refine Below.alloc ?_ (by simp) _)
theorem may_eq_3 {op rd ra rb imm : Int} (hf : fmt op = 3) : vld ⟨op, rd, ra, rb, imm⟩ = (rg rd true && (rg ra false && (rg rb false && (fits imm 18)))) := by
  rw [vld_3 hf]
  have z := fits_zero
  by_cases h0 : imm = 0
  · subst h0; simp [z, Bool.and_assoc]
  · rw [Bool.eq_iff_iff]
    simp [h0]
    try constructor
    all_goals (intros; simp [*]; try omega)
set_option maxRecDepth 100000 in
set_option maxHeartbeats 1000000 in
theorem may_3 (i : In) (w : World) (hx : small i.imm) (hf : fmt i.op = 3) :
    Calls Tryz.prog 32 #[i.v] w fun e w' => e = .returned (.bool (vld i)) ∧ Below w.heap.size w w' := by
  obtain ⟨op, rd, ra, rb, imm⟩ := i
  unfold In.v
  dsimp only at hf hx ⊢
  rw [may_eq_3 hf]
  have HF := Lib.hid hf; clear hf
  have HX := Lib.hid hx; clear hx
  go_enter Tryz.func32, Tryz.ntmps32
  go_wp2_with fail
  refine (form_at op 3 _ HF.out).mono ?_
  rintro e w' ⟨rfl, ⟨n0, rfl⟩⟩
  go_wp2_with (first | (go_at_call 57; refine (rfits_any _ HX.out _).mono ?_; rintro e w' ⟨rfl, ⟨nq, rfl⟩⟩) | (go_at_call 56; refine (reg_any _ _ _).mono ?_; rintro e w' ⟨rfl, ⟨nq, rfl⟩⟩))
  all_goals go_ret
  all_goals refine ⟨by first | (simp [*]; done) | (simp_all; done) | (simp [*]; intros; omega), ?_⟩
  all_goals repeat (first | exact Below.refl _ _ | refine bdrew ?_ _ | refine Below.alloc ?_ (by simp) _)
theorem may_eq_4 {op rd ra rb imm : Int} (hf : fmt op = 4) : vld ⟨op, rd, ra, rb, imm⟩ = (rg rd false && (rg ra false && (rg rb false && (imm == 0)))) := by
  rw [vld_4 hf]
  have z := fits_zero
  by_cases h0 : imm = 0
  · subst h0; simp [z, Bool.and_assoc]
  · rw [Bool.eq_iff_iff]
    simp [h0]
    try constructor
    all_goals (intros; simp [*]; try omega)
set_option maxRecDepth 100000 in
set_option maxHeartbeats 1000000 in
theorem may_4 (i : In) (w : World) (hx : small i.imm) (hf : fmt i.op = 4) :
    Calls Tryz.prog 32 #[i.v] w fun e w' => e = .returned (.bool (vld i)) ∧ Below w.heap.size w w' := by
  obtain ⟨op, rd, ra, rb, imm⟩ := i
  unfold In.v
  dsimp only at hf hx ⊢
  rw [may_eq_4 hf]
  have HF := Lib.hid hf; clear hf
  have HX := Lib.hid hx; clear hx
  go_enter Tryz.func32, Tryz.ntmps32
  go_wp2_with fail
  refine (form_at op 4 _ HF.out).mono ?_
  rintro e w' ⟨rfl, ⟨n0, rfl⟩⟩
  go_wp2_with (first | (go_at_call 57; refine (rfits_any _ HX.out _).mono ?_; rintro e w' ⟨rfl, ⟨nq, rfl⟩⟩) | (go_at_call 56; refine (reg_any _ _ _).mono ?_; rintro e w' ⟨rfl, ⟨nq, rfl⟩⟩))
  all_goals go_ret
  all_goals refine ⟨by first | (simp [*]; done) | (simp_all; done) | (simp [*]; intros; omega), ?_⟩
  all_goals repeat (first | exact Below.refl _ _ | refine bdrew ?_ _ | refine Below.alloc ?_ (by simp) _)
theorem may_eq_5 {op rd ra rb imm : Int} (hf : fmt op = 5) : vld ⟨op, rd, ra, rb, imm⟩ = (rg rd true && (rg ra false && (rg rb false && (decide (0 ≤ imm) && decide (imm ≤ 11))))) := by
  rw [vld_5 hf]
  have z := fits_zero
  by_cases h0 : imm = 0
  · subst h0; simp [z, Bool.and_assoc]
  · rw [Bool.eq_iff_iff]
    simp [h0]
    try constructor
    all_goals (intros; simp [*]; try omega)
set_option maxRecDepth 100000 in
set_option maxHeartbeats 1000000 in
theorem may_5 (i : In) (w : World) (hx : small i.imm) (hf : fmt i.op = 5) :
    Calls Tryz.prog 32 #[i.v] w fun e w' => e = .returned (.bool (vld i)) ∧ Below w.heap.size w w' := by
  obtain ⟨op, rd, ra, rb, imm⟩ := i
  unfold In.v
  dsimp only at hf hx ⊢
  rw [may_eq_5 hf]
  have HF := Lib.hid hf; clear hf
  have HX := Lib.hid hx; clear hx
  go_enter Tryz.func32, Tryz.ntmps32
  go_wp2_with fail
  refine (form_at op 5 _ HF.out).mono ?_
  rintro e w' ⟨rfl, ⟨n0, rfl⟩⟩
  go_wp2_with (first | (go_at_call 57; refine (rfits_any _ HX.out _).mono ?_; rintro e w' ⟨rfl, ⟨nq, rfl⟩⟩) | (go_at_call 56; refine (reg_any _ _ _).mono ?_; rintro e w' ⟨rfl, ⟨nq, rfl⟩⟩))
  all_goals go_ret
  all_goals refine ⟨by first | (simp [*]; done) | (simp_all; done) | (simp [*]; intros; omega), ?_⟩
  all_goals repeat (first | exact Below.refl _ _ | refine bdrew ?_ _ | refine Below.alloc ?_ (by simp) _)
theorem may_eq_6 {op rd ra rb imm : Int} (hf : fmt op = 6) : vld ⟨op, rd, ra, rb, imm⟩ = (rg rd false && (rg ra true && (rg rb false && (decide (0 ≤ imm) && decide (imm ≤ 11))))) := by
  rw [vld_6 hf]
  have z := fits_zero
  by_cases h0 : imm = 0
  · subst h0; simp [z, Bool.and_assoc]
  · rw [Bool.eq_iff_iff]
    simp [h0]
    try constructor
    all_goals (intros; simp [*]; try omega)
set_option maxRecDepth 100000 in
set_option maxHeartbeats 1000000 in
theorem may_6 (i : In) (w : World) (hx : small i.imm) (hf : fmt i.op = 6) :
    Calls Tryz.prog 32 #[i.v] w fun e w' => e = .returned (.bool (vld i)) ∧ Below w.heap.size w w' := by
  obtain ⟨op, rd, ra, rb, imm⟩ := i
  unfold In.v
  dsimp only at hf hx ⊢
  rw [may_eq_6 hf]
  have HF := Lib.hid hf; clear hf
  have HX := Lib.hid hx; clear hx
  go_enter Tryz.func32, Tryz.ntmps32
  go_wp2_with fail
  refine (form_at op 6 _ HF.out).mono ?_
  rintro e w' ⟨rfl, ⟨n0, rfl⟩⟩
  go_wp2_with (first | (go_at_call 57; refine (rfits_any _ HX.out _).mono ?_; rintro e w' ⟨rfl, ⟨nq, rfl⟩⟩) | (go_at_call 56; refine (reg_any _ _ _).mono ?_; rintro e w' ⟨rfl, ⟨nq, rfl⟩⟩))
  all_goals go_ret
  all_goals refine ⟨by first | (simp [*]; done) | (simp_all; done) | (simp [*]; intros; omega), ?_⟩
  all_goals repeat (first | exact Below.refl _ _ | refine bdrew ?_ _ | refine Below.alloc ?_ (by simp) _)
theorem may_eq_7 {op rd ra rb imm : Int} (hf : fmt op = 7) : vld ⟨op, rd, ra, rb, imm⟩ = (rg rd false && (rg ra true && (rg rb false && (imm == 0)))) := by
  rw [vld_7 hf]
  have z := fits_zero
  by_cases h0 : imm = 0
  · subst h0; simp [z, Bool.and_assoc]
  · rw [Bool.eq_iff_iff]
    simp [h0]
    try constructor
    all_goals (intros; simp [*]; try omega)
set_option maxRecDepth 100000 in
set_option maxHeartbeats 1000000 in
theorem may_7 (i : In) (w : World) (hx : small i.imm) (hf : fmt i.op = 7) :
    Calls Tryz.prog 32 #[i.v] w fun e w' => e = .returned (.bool (vld i)) ∧ Below w.heap.size w w' := by
  obtain ⟨op, rd, ra, rb, imm⟩ := i
  unfold In.v
  dsimp only at hf hx ⊢
  rw [may_eq_7 hf]
  have HF := Lib.hid hf; clear hf
  have HX := Lib.hid hx; clear hx
  go_enter Tryz.func32, Tryz.ntmps32
  go_wp2_with fail
  refine (form_at op 7 _ HF.out).mono ?_
  rintro e w' ⟨rfl, ⟨n0, rfl⟩⟩
  go_wp2_with (first | (go_at_call 57; refine (rfits_any _ HX.out _).mono ?_; rintro e w' ⟨rfl, ⟨nq, rfl⟩⟩) | (go_at_call 56; refine (reg_any _ _ _).mono ?_; rintro e w' ⟨rfl, ⟨nq, rfl⟩⟩))
  all_goals go_ret
  all_goals refine ⟨by first | (simp [*]; done) | (simp_all; done) | (simp [*]; intros; omega), ?_⟩
  all_goals repeat (first | exact Below.refl _ _ | refine bdrew ?_ _ | refine Below.alloc ?_ (by simp) _)
theorem may_0 (i : In) (w : World) (hf : fmt i.op = 0) :
    Calls Tryz.prog 32 #[i.v] w fun e w' => e = .returned (.bool (vld i)) ∧ Below w.heap.size w w' := by
  obtain ⟨op, rd, ra, rb, imm⟩ := i
  unfold In.v vld
  dsimp only at hf ⊢
  rw [hf]
  have HF := Lib.hid hf; clear hf
  go_enter Tryz.func32, Tryz.ntmps32
  go_wp2_with fail
  refine (form_at op 0 _ HF.out).mono ?_
  rintro e w' ⟨rfl, ⟨n0, rfl⟩⟩
  go_wp2_with fail
  go_ret
  exact ⟨by simp, by repeat (first | exact Below.refl _ _ | refine bdrew ?_ _ | refine Below.alloc ?_ (by simp) _)⟩
theorem may_any (i : In) (w : World) (hx : small i.imm) : Calls Tryz.prog 32 #[i.v] w fun e w' => e = .returned (.bool (vld i)) ∧ Below w.heap.size w w' := by
  rcases fmt_cases i.op with e | e | e | e | e | e | e | e
  · exact may_0 i w e
  · exact may_1 i w hx e
  · exact may_2 i w hx e
  · exact may_3 i w hx e
  · exact may_4 i w hx e
  · exact may_5 i w hx e
  · exact may_6 i w hx e
  · exact may_7 i w hx e
theorem may_at (i : In) (b : Bool) (w : World) (hx : small i.imm) (hb : vld i = b) : Calls Tryz.prog 32 #[i.v] w fun e w' => e = .returned (.bool b) ∧ Below w.heap.size w w' := by
  subst hb; exact may_any i w hx
theorem num_fits {f x : Int} (h : numOk f x = true) : fits x 18 = true := by
  unfold numOk at h
  by_cases h0 : x = 0
  · subst h0; exact fits_zero
  · rw [beq_eq_false_iff_ne.2 h0, Bool.false_or, Bool.or_eq_true] at h
    rcases h with h | h
    · exact (Bool.and_eq_true _ _ ▸ h).2
    · have := (Bool.and_eq_true _ _ ▸ h).2
      simp at this
      rw [fits_iff]
      omega
theorem dec_enc {i : In} (h : vld i = true) : decI (encW i) = i := by
  have hb := vld_bounds h
  have hl := lowrb_lt h
  obtain ⟨h0, h1, h2, h3, h4⟩ := vld_parts h
  have or := imm_or_rb h
  have hf := num_fits h1
  obtain ⟨op, rd, ra, rb, imm⟩ := i
  dsimp only at *
  obtain ⟨o, rfl⟩ := Int.eq_ofNat_of_zero_le (show 0 ≤ op by omega)
  obtain ⟨d, rfl⟩ := Int.eq_ofNat_of_zero_le (show 0 ≤ rd by omega)
  obtain ⟨a, rfl⟩ := Int.eq_ofNat_of_zero_le (show 0 ≤ ra by omega)
  obtain ⟨b, rfl⟩ := Int.eq_ofNat_of_zero_le (show 0 ≤ rb by omega)
  simp only [Int.toNat_natCast] at *
  have e1 : encW ⟨(o : Int), (d : Int), (a : Int), (b : Int), imm⟩ / 67108864 = o := by unfold encW; dsimp only; simp only [Int.toNat_natCast]; omega
  have e2 : encW ⟨(o : Int), (d : Int), (a : Int), (b : Int), imm⟩ / 4194304 % 16 = d := by unfold encW; dsimp only; simp only [Int.toNat_natCast]; omega
  have e3 : encW ⟨(o : Int), (d : Int), (a : Int), (b : Int), imm⟩ / 262144 % 16 = a := by unfold encW; dsimp only; simp only [Int.toNat_natCast]; omega
  have e4 : encW ⟨(o : Int), (d : Int), (a : Int), (b : Int), imm⟩ % 262144 = wd imm % 262144 + b := by unfold encW; dsimp only; simp only [Int.toNat_natCast]; omega
  unfold decI
  rw [e1, e2, e3]
  by_cases hf1 : fmt (o : Int) = 1
  · rw [if_pos hf1]
    have z : imm = 0 := by rw [hf1] at h1; simpa [numOk, hasF, ptl] using h1
    have e5 : encW ⟨(o : Int), (d : Int), (a : Int), (b : Int), imm⟩ % 16 = b := by
      rw [z, wd_zero] at e4
      rw [z]
      omega
    rw [e5, z]
  · rw [if_neg hf1]
    have z : (b : Int) = 0 := by
      rcases fmt_cases (o : Int) with e | e | e | e | e | e | e | e
      · exact absurd e h0
      · exact absurd e hf1
      all_goals (rw [e] at h4; exact rg_no h4)
    have e5 : sgn (encW ⟨(o : Int), (d : Int), (a : Int), (b : Int), imm⟩) 18 = imm := by
      rw [← sgn_mod, show (2 ^ 18 : Nat) = 262144 from rfl, e4, show b = 0 by omega, Nat.add_zero]
      have s := (sgn_wd (x := imm) (n := 18) (by omega) (by omega)).2 hf
      have m := sgn_mod (v := wd imm) (n := 18)
      rw [show (2 ^ 18 : Nat) = 262144 from rfl] at m
      rw [m]
      exact s
    rw [e5, z]
theorem dec_ok {i : In} (h : vld i = true) : decOk (encW i) = true := by unfold decOk; rw [dec_enc h, h]; simp
theorem dec_r {i : In} (h : vld i = true) : decR (encW i) = i := by unfold decR; rw [if_pos (dec_ok h), dec_enc h]
theorem enc_inj {i j : In} (hi : vld i = true) (hj : vld j = true) (h : encW i = encW j) : i = j := by rw [← dec_enc hi, ← dec_enc hj, h]
theorem ok_parts {w : Nat} (h : decOk w = true) : vld (decR w) = true ∧ encW (decR w) = w := by
  have e : decR w = decI w := by unfold decR; rw [if_pos h]
  rw [e]
  unfold decOk at h
  simpa using h
theorem no_part {w : Nat} (h : decOk w = false) : decR w = nilI := by unfold decR; rw [h]; rfl
end Go.Proofs.YtihnglgknncgpaaGreatDoor.Isa
