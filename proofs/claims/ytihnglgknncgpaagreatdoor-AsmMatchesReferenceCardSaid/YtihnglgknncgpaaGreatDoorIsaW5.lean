/- The reference 02: Sign, Low, Encode and Decode, walked. -/
import Derived.Test.YtihnglgknncgpaaGreatDoorIsaW4
namespace Go.Proofs.YtihnglgknncgpaaGreatDoor.Isa
open Go Go.RowKit Go.Proofs.YtihnglgknncgpaaGreatDoor.PAsmEveryWordHasOneLine Go.Proofs.YtihnglgknncgpaaGreatDoorW.PrintWords Go.Proofs.YtihnglgknncgpaaGreatDoorW.PrintLast Go.Proofs.YtihnglgknncgpaaGreatDoorW.PrintMore Go.Proofs.YtihnglgknncgpaaGreatDoor.Bm
set_option linter.unusedVariables false
set_option linter.unusedSimpArgs false
theorem pow_at (n : Nat) (r : Int) (N : Int) (hN : N = n) (w : World) (hn : n < 49) (hr : ((2 ^ n : Nat) : Int) = r) : Calls Tryz.prog 44 #[.int .i64 N] w fun e w' => e = .returned (.int .u64 r) ∧ ∃ n, w' = w.drewN n := by
  subst hN hr; exact (gaolerref01_Pow.calls 50 _ _ _ (i_pow 50 n (by omega) (by omega))).mono fun _ _ ⟨he, hd⟩ => ⟨he, hd.out⟩
theorem field_at (x p n r : Nat) (P N : Int) (hP : P = p) (hN : N = n) (w : World) (hx : x < 2 ^ 32) (hp : p ≤ 32) (hn : n ≤ 32) (hr : fld x p n = r) :
    Calls Tryz.prog 43 #[.int .u32 (x : Int), .int .i64 P, .int .i64 N] w fun e w' => e = .returned (.int .u32 (r : Int)) ∧ ∃ n, w' = w.drewN n := by
  subst hP hN hr; exact (gaolerref01_Field.calls 50 _ _ _ _ _ (i_field 50 x p n hx hp hn (by omega) (by omega))).mono fun _ _ ⟨he, hd⟩ => ⟨he, hd.out⟩
set_option maxRecDepth 100000 in
theorem rsign_at (x : Nat) (w : World) (hx : x < 2 ^ 32) : Calls Tryz.prog 20 #[.int .u32 (x : Int), .int .i64 18] w fun e w' => e = .returned (.int .i32 (sgn x 18)) ∧ ∃ n, w' = w.drewN n := by
  obtain ⟨y, hy⟩ : ∃ y, fld x 0 18 = y := ⟨_, rfl⟩
  have ly : y < 262144 := by rw [← hy]; exact fld_lt _ _ _
  have C1 := Lib.hid (fun w => field_at x 0 18 y 0 18 rfl rfl w hx (by omega) (by omega) hy)
  have hs : sgn x 18 = if y < 131072 then (y : Int) else (y : Int) - 262144 := by
    rw [fld_zero] at hy
    unfold sgn
    rw [hy]; rfl
  rw [hs]
  clear hs hy hx
  by_cases hlt : y < 131072
  · rw [if_pos hlt]
    have h1 : (y : Int) < 131072 := by omega
    have hb : decide ((y : Int) ≥ 131072) = false := decide_eq_false (by omega)
    have hb2 : decide ((131072 : Int) ≤ (y : Int)) = false := decide_eq_false (by omega)
    have h2 : (0 : Int) ≤ (y : Int) := by omega
    clear hlt ly
    go_enter Tryz.func20, Tryz.ntmps20
    go_wp2_with fail
    refine (C1.out _).mono ?_
    rintro e w' ⟨rfl, ⟨n1, rfl⟩⟩
    go_wp2_with fail
    refine (pow_at 17 131072 _ rfl _ (by omega) rfl).mono ?_
    rintro e w' ⟨rfl, ⟨n2, rfl⟩⟩
    go_wp2_with fail
    go_ret
    exact ⟨rfl, _, rfl⟩
  · rw [if_neg hlt]
    have h1 : (131072 : Int) ≤ (y : Int) := by omega
    have h2 : (y : Int) < 262144 := by omega
    clear hlt ly
    go_enter Tryz.func20, Tryz.ntmps20
    go_wp2_with fail
    refine (C1.out _).mono ?_
    rintro e w' ⟨rfl, ⟨n1, rfl⟩⟩
    go_wp2_with fail
    refine (pow_at 17 131072 _ rfl _ (by omega) rfl).mono ?_
    rintro e w' ⟨rfl, ⟨n2, rfl⟩⟩
    go_wp2_with fail
    refine (pow_at 18 262144 _ rfl _ (by omega) rfl).mono ?_
    rintro e w' ⟨rfl, ⟨n3, rfl⟩⟩
    go_wp2_with fail
    go_ret
    exact ⟨rfl, _, rfl⟩
set_option maxRecDepth 100000 in
theorem rlow_at (x : Int) (r : Nat) (w : World) (hx : small x) (hr : wd x % 2 ^ 18 = r) : Calls Tryz.prog 45 #[.int .i32 x, .int .i64 18] w fun e w' => e = .returned (.int .u32 (r : Int)) ∧ ∃ n, w' = w.drewN n := by
  have hw := wd_cast x
  have hl := wd_lt x
  obtain ⟨h1, h2⟩ := hx
  obtain ⟨y, hy⟩ : ∃ y, wd x = y := ⟨_, rfl⟩
  rw [hy] at hr hw hl
  clear hy
  by_cases hlt : x < 0
  · obtain rfl : x = (y : Int) - 4294967296 := by omega
    clear hw
    go_enter Tryz.func45, Tryz.ntmps45
    go_wp2_with fail
    refine (pow_at 18 262144 _ rfl _ (by omega) rfl).mono ?_
    rintro e w' ⟨rfl, ⟨n2, rfl⟩⟩
    go_wp2_with fail
    go_ret
    exact ⟨congrArg (fun z => Ending.returned (Value.int .u32 z)) (by show (y : Int) % 262144 = _; omega), _, rfl⟩
  · obtain rfl : x = (y : Int) := by omega
    clear hw
    go_enter Tryz.func45, Tryz.ntmps45
    go_wp2_with fail
    refine (pow_at 18 262144 _ rfl _ (by omega) rfl).mono ?_
    rintro e w' ⟨rfl, ⟨n2, rfl⟩⟩
    go_wp2_with fail
    go_ret
    exact ⟨congrArg (fun z => Ending.returned (Value.int .u32 z)) (by show (y : Int) % 262144 = _; omega), _, rfl⟩
theorem renc_no (i : In) (w : World) (hx : small i.imm) (hv : vld i = false) :
    Calls Tryz.prog 21 #[i.v] w fun e w' => e = .returned (.tuple #[.int .u32 0, .bool false]) ∧ Below w.heap.size w w' := by
  have Hval := Lib.hid (fun w => may_at i false w hx hv)
  clear hv hx
  obtain ⟨op, rd, ra, rb, imm⟩ := i
  unfold In.v at Hval ⊢
  dsimp only at Hval ⊢
  go_enter Tryz.func21, Tryz.ntmps21
  go_wp2_with fail
  refine (Hval.out _).mono ?_
  rintro e w' ⟨rfl, hb⟩
  go_wp2_with fail
  go_ret2
  exact ⟨rfl, ((Below.refl _ w).alloc (Nat.le_refl _) _).trans (hb.mono (by simp))⟩
set_option maxRecDepth 100000 in
set_option maxHeartbeats 1000000 in
theorem renc_1 (o d a b x : Nat) (imm : Int) (w : World) (ho : o < 26) (hd : d < 16) (ha : a < 16) (hb : b < 16) (hx : x < 262144) (hf : fmt (o : Int) = 1) (hs : small imm) (hl : wd imm % 2 ^ 18 = x)
    (Hv : ∀ w, Calls Tryz.prog 32 #[.agg #[.int .i64 (o : Int), .int .i64 (d : Int), .int .i64 (a : Int), .int .i64 (b : Int), .int .i32 imm]] w fun e w' => e = .returned (.bool true) ∧ Below w.heap.size w w') :
    Calls Tryz.prog 21 #[.agg #[.int .i64 (o : Int), .int .i64 (d : Int), .int .i64 (a : Int), .int .i64 (b : Int), .int .i32 imm]] w fun e w' => e = .returned (.tuple #[.int .u32 ((o * 67108864 + d * 4194304 + a * 262144 + b : Nat) : Int), .bool true]) ∧ Below w.heap.size w w' := by
  have HV := Lib.hid Hv
  have HF := Lib.hid hf
  have C1 := Lib.hid (fun w => rlow_at imm x w hs hl)
  clear hf hs hl Hv
  have i1 : (o : Int) < 26 := by omega
  have i2 : (d : Int) < 16 := by omega
  have i3 : (a : Int) < 16 := by omega
  have i4 : (b : Int) < 16 := by omega
  have i5 : (x : Int) < 262144 := by omega

  clear ho hd ha hb hx 
  go_enter Tryz.func21, Tryz.ntmps21
  go_wp2_with fail
  refine (HV.out _).mono ?_
  rintro e w' ⟨rfl, hb⟩
  have hc := fun j => hb.cell (p := ⟨w.heap.size, j, none⟩) (by simp)
  have HB := Lib.hid hb; clear hb
  go_wp2_with fail
  refine (C1.out _).mono ?_
  rintro e w2 ⟨rfl, ⟨n1, rfl⟩⟩
  go_wp2_with fail
  refine (form_at _ 1 _ HF.out).mono ?_
  rintro e w3 ⟨rfl, ⟨n2, rfl⟩⟩
  go_wp2_with fail
  go_ret2
  refine ⟨congrArg (fun z => Ending.returned (Value.tuple #[Value.int .u32 z, .bool true])) ?_, ?_⟩
  · omega
  · repeat (first | exact ((Below.refl _ w).alloc (Nat.le_refl _) _).trans (HB.out.mono (by simp)) | refine bdrew ?_ _)
set_option maxRecDepth 100000 in
set_option maxHeartbeats 1000000 in
theorem renc_2 (o d a b x : Nat) (f : Nat) (imm : Int) (w : World) (ho : o < 26) (hd : d < 16) (ha : a < 16) (hb : b < 16) (hx : x < 262144) (hf : fmt (o : Int) = (f : Int)) (nf : f ≠ 1) (hs : small imm) (hl : wd imm % 2 ^ 18 = x)
    (Hv : ∀ w, Calls Tryz.prog 32 #[.agg #[.int .i64 (o : Int), .int .i64 (d : Int), .int .i64 (a : Int), .int .i64 (b : Int), .int .i32 imm]] w fun e w' => e = .returned (.bool true) ∧ Below w.heap.size w w') :
    Calls Tryz.prog 21 #[.agg #[.int .i64 (o : Int), .int .i64 (d : Int), .int .i64 (a : Int), .int .i64 (b : Int), .int .i32 imm]] w fun e w' => e = .returned (.tuple #[.int .u32 ((o * 67108864 + d * 4194304 + a * 262144 + x : Nat) : Int), .bool true]) ∧ Below w.heap.size w w' := by
  have HV := Lib.hid Hv
  have HF := Lib.hid hf
  have C1 := Lib.hid (fun w => rlow_at imm x w hs hl)
  clear hf hs hl Hv
  have i1 : (o : Int) < 26 := by omega
  have i2 : (d : Int) < 16 := by omega
  have i3 : (a : Int) < 16 := by omega
  have i4 : (b : Int) < 16 := by omega
  have i5 : (x : Int) < 262144 := by omega
  have nfb : ((f : Int) == 1) = false := beq_eq_false_iff_ne.2 (by omega)
  clear ho hd ha hb hx nf
  go_enter Tryz.func21, Tryz.ntmps21
  go_wp2_with fail
  refine (HV.out _).mono ?_
  rintro e w' ⟨rfl, hb⟩
  have hc := fun j => hb.cell (p := ⟨w.heap.size, j, none⟩) (by simp)
  have HB := Lib.hid hb; clear hb
  go_wp2_with fail
  refine (C1.out _).mono ?_
  rintro e w2 ⟨rfl, ⟨n1, rfl⟩⟩
  go_wp2_with fail
  refine (form_at _ _ _ HF.out).mono ?_
  rintro e w3 ⟨rfl, ⟨n2, rfl⟩⟩
  go_wp2_with fail
  go_ret2
  refine ⟨congrArg (fun z => Ending.returned (Value.tuple #[Value.int .u32 z, .bool true])) ?_, ?_⟩
  · omega
  · repeat (first | exact ((Below.refl _ w).alloc (Nat.le_refl _) _).trans (HB.out.mono (by simp)) | refine bdrew ?_ _)
theorem renc_any (i : In) (w : World) (hx : small i.imm) :
    Calls Tryz.prog 21 #[i.v] w fun e w' => e = .returned (.tuple #[.int .u32 (encR i : Int), .bool (vld i)]) ∧ Below w.heap.size w w' := by
  unfold encR
  cases hv : vld i with
  | false => rw [if_neg (by decide)]; exact renc_no i w hx hv
  | true =>
    rw [if_pos rfl]
    have hb := vld_bounds hv
    have hl := lowrb_lt hv
    have hv' := fun w => may_at i true w hx hv
    have or := imm_or_rb hv
    have hp := vld_parts hv
    obtain ⟨op, rd, ra, rb, imm⟩ := i
    unfold encW In.v
    unfold In.v at hv'
    dsimp only at *
    obtain ⟨o, rfl⟩ := Int.eq_ofNat_of_zero_le (show 0 ≤ op by omega)
    obtain ⟨d, rfl⟩ := Int.eq_ofNat_of_zero_le (show 0 ≤ rd by omega)
    obtain ⟨a, rfl⟩ := Int.eq_ofNat_of_zero_le (show 0 ≤ ra by omega)
    obtain ⟨b, rfl⟩ := Int.eq_ofNat_of_zero_le (show 0 ≤ rb by omega)
    simp only [Int.toNat_natCast] at *
    have hxl : wd imm % 2 ^ 18 < 262144 := Nat.mod_lt _ (by decide)
    by_cases hf : fmt (o : Int) = 1
    · have e0 : imm = 0 := by
        have := hp.2.1
        rw [hf] at this
        simpa [numOk, hasF, ptl] using this
      have e1 : wd imm % 262144 + b = b := by rw [e0, wd_zero]; omega
      rw [e1]
      exact renc_1 o d a b _ imm w (by omega) (by omega) (by omega) (by omega) hxl hf hx rfl hv'
    · have e0 : (b : Int) = 0 := by
        rcases fmt_cases (o : Int) with e | e | e | e | e | e | e | e
        · exact absurd e hp.1
        · exact absurd e hf
        all_goals (have := hp.2.2.2.2; rw [e] at this; exact rg_no this)
      obtain ⟨f, hf', _⟩ : ∃ f : Nat, fmt (o : Int) = (f : Int) ∧ f < 8 := by
        rcases fmt_cases (o : Int) with e | e | e | e | e | e | e | e
        · exact ⟨0, e, by omega⟩
        · exact ⟨1, e, by omega⟩
        · exact ⟨2, e, by omega⟩
        · exact ⟨3, e, by omega⟩
        · exact ⟨4, e, by omega⟩
        · exact ⟨5, e, by omega⟩
        · exact ⟨6, e, by omega⟩
        · exact ⟨7, e, by omega⟩
      have e1 : wd imm % 262144 + b = wd imm % 2 ^ 18 := by omega
      rw [e1]
      exact renc_2 o d a b _ f imm w (by omega) (by omega) (by omega) (by omega) hxl hf' (by intro e; subst e; exact hf hf') hx rfl hv'
theorem renc_at (i : In) (r : Nat) (b : Bool) (w : World) (hx : small i.imm) (hr : encR i = r) (hb : vld i = b) :
    Calls Tryz.prog 21 #[i.v] w fun e w' => e = .returned (.tuple #[.int .u32 (r : Int), .bool b]) ∧ Below w.heap.size w w' := by
  subst hr hb; exact renc_any i w hx
set_option maxRecDepth 100000 in
set_option maxHeartbeats 1000000 in
theorem rdec_1_yes (w o d a b : Nat) (r : Nat) (W : World) (hw : w < 2 ^ 32) (lo : o < 64) (ld : d < 16) (la : a < 16) (lb : b < 16) 
    (e1 : w / 67108864 = o) (e2 : w / 4194304 % 16 = d) (e3 : w / 262144 % 16 = a) (e4 : w % 16 = b) (hf : fmt (o : Int) = 1)
    (C5 : ∀ W, Calls Tryz.prog 21 #[.agg #[.int .i64 (o : Int), .int .i64 (d : Int), .int .i64 (a : Int), .int .i64 (b : Int), .int .i32 0]] W fun e w' => e = .returned (.tuple #[.int .u32 (r : Int), .bool true]) ∧ Below W.heap.size W w') (heq : r = w) :
    Calls Tryz.prog 7 #[.int .u32 (w : Int)] W fun e w' => e = .returned (.tuple #[.agg #[.int .i64 (o : Int), .int .i64 (d : Int), .int .i64 (a : Int), .int .i64 (b : Int), .int .i32 0], .bool true]) ∧ Below W.heap.size W w' := by
  have q1 : (w : Int) / 67108864 = (o : Int) := by omega
  have q2 : (w : Int) / 4194304 % 16 = (d : Int) := by omega
  have q3 : (w : Int) / 262144 % 16 = (a : Int) := by omega
  have q4 : (w : Int) % 16 = (b : Int) := by omega
  have HF := Lib.hid hf
  have H5 := Lib.hid C5
  have iw : (w : Int) < 4294967296 := by omega
  have hne : ((r : Int) == (w : Int)) = true := by rw [beq_iff_eq]; omega
  have hne2 : ((r : Int) != (w : Int)) = false := by rw [bne_eq_false_iff_eq]; omega
  clear hf e1 e2 e3 e4 C5 hw heq 
  go_enter Tryz.func7, Tryz.ntmps7
  go_wp2_with fail
  refine (form_at _ 1 _ HF.out).mono ?_
  rintro e w' ⟨rfl, ⟨n1, rfl⟩⟩
  go_wp2_with fail
  refine (H5.out _).mono ?_
  rintro e w' ⟨rfl, hb⟩
  have hc := fun j => hb.cell (p := ⟨W.heap.size + 1, j, none⟩) (by simp)
  have hcr := fun j => hb.cell (p := ⟨W.heap.size, j, none⟩) (by simp; omega)
  have hz : W.heap.size + 1 < w'.heap.size := by have := hb.size; simp at this; omega
  have hfr := fun j => hb.frozen (p := ⟨W.heap.size, j, none⟩) (by simp; omega)
  have HB : Hid (Below W.heap.size W w') := Lib.hid (Below.trans (by repeat (first | exact Below.refl _ _ | refine bdrew ?_ _ | refine Below.alloc ?_ (by simp) _ | refine Below.setCell ?_ (by simp) _)) (hb.mono (by simp; omega)))
  clear hb
  go_wp2_with fail
  refine bodyPost_ret (v := .tuple #[.agg #[.int .i64 (o : Int), .int .i64 (d : Int), .int .i64 (a : Int), .int .i64 (b : Int), .int .i32 0], .bool true]) (by simp [results, Tryz.results7, go_sem, hcr]) rfl ⟨rfl, ?_⟩
  repeat (first | exact HB.out | refine Below.setCell ?_ (by simp) _)
set_option maxRecDepth 100000 in
set_option maxHeartbeats 1000000 in
theorem rdec_1_part (w o d a b : Nat) (r : Nat) (W : World) (hw : w < 2 ^ 32) (lo : o < 64) (ld : d < 16) (la : a < 16) (lb : b < 16) 
    (e1 : w / 67108864 = o) (e2 : w / 4194304 % 16 = d) (e3 : w / 262144 % 16 = a) (e4 : w % 16 = b) (hf : fmt (o : Int) = 1)
    (C5 : ∀ W, Calls Tryz.prog 21 #[.agg #[.int .i64 (o : Int), .int .i64 (d : Int), .int .i64 (a : Int), .int .i64 (b : Int), .int .i32 0]] W fun e w' => e = .returned (.tuple #[.int .u32 (r : Int), .bool true]) ∧ Below W.heap.size W w') (heq : r ≠ w) :
    Calls Tryz.prog 7 #[.int .u32 (w : Int)] W fun e w' => e = .returned (.tuple #[.agg #[.int .i64 0, .int .i64 0, .int .i64 0, .int .i64 0, .int .i32 0], .bool false]) ∧ Below W.heap.size W w' := by
  have q1 : (w : Int) / 67108864 = (o : Int) := by omega
  have q2 : (w : Int) / 4194304 % 16 = (d : Int) := by omega
  have q3 : (w : Int) / 262144 % 16 = (a : Int) := by omega
  have q4 : (w : Int) % 16 = (b : Int) := by omega
  have HF := Lib.hid hf
  have H5 := Lib.hid C5
  have iw : (w : Int) < 4294967296 := by omega
  have hne : ((r : Int) == (w : Int)) = false := by rw [beq_eq_false_iff_ne]; omega
  have hne2 : ((r : Int) != (w : Int)) = true := by rw [bne_iff_ne]; omega
  clear hf e1 e2 e3 e4 C5 hw heq 
  go_enter Tryz.func7, Tryz.ntmps7
  go_wp2_with fail
  refine (form_at _ 1 _ HF.out).mono ?_
  rintro e w' ⟨rfl, ⟨n1, rfl⟩⟩
  go_wp2_with fail
  refine (H5.out _).mono ?_
  rintro e w' ⟨rfl, hb⟩
  have hc := fun j => hb.cell (p := ⟨W.heap.size + 1, j, none⟩) (by simp)
  have hcr := fun j => hb.cell (p := ⟨W.heap.size, j, none⟩) (by simp; omega)
  have hz : W.heap.size + 1 < w'.heap.size := by have := hb.size; simp at this; omega
  have hfr := fun j => hb.frozen (p := ⟨W.heap.size, j, none⟩) (by simp; omega)
  have HB : Hid (Below W.heap.size W w') := Lib.hid (Below.trans (by repeat (first | exact Below.refl _ _ | refine bdrew ?_ _ | refine Below.alloc ?_ (by simp) _ | refine Below.setCell ?_ (by simp) _)) (hb.mono (by simp; omega)))
  clear hb
  go_wp2_with fail
  refine bodyPost_ret (v := .tuple #[.agg #[.int .i64 0, .int .i64 0, .int .i64 0, .int .i64 0, .int .i32 0], .bool false]) (by simp [results, Tryz.results7, go_sem, hcr]) rfl ⟨rfl, ?_⟩
  repeat (first | exact HB.out | refine Below.setCell ?_ (by simp) _)
set_option maxRecDepth 100000 in
set_option maxHeartbeats 1000000 in
theorem rdec_1_no (w o d a b : Nat) (r : Nat) (W : World) (hw : w < 2 ^ 32) (lo : o < 64) (ld : d < 16) (la : a < 16) (lb : b < 16) 
    (e1 : w / 67108864 = o) (e2 : w / 4194304 % 16 = d) (e3 : w / 262144 % 16 = a) (e4 : w % 16 = b) (hf : fmt (o : Int) = 1)
    (C5 : ∀ W, Calls Tryz.prog 21 #[.agg #[.int .i64 (o : Int), .int .i64 (d : Int), .int .i64 (a : Int), .int .i64 (b : Int), .int .i32 0]] W fun e w' => e = .returned (.tuple #[.int .u32 (r : Int), .bool false]) ∧ Below W.heap.size W w') :
    Calls Tryz.prog 7 #[.int .u32 (w : Int)] W fun e w' => e = .returned (.tuple #[.agg #[.int .i64 0, .int .i64 0, .int .i64 0, .int .i64 0, .int .i32 0], .bool false]) ∧ Below W.heap.size W w' := by
  have q1 : (w : Int) / 67108864 = (o : Int) := by omega
  have q2 : (w : Int) / 4194304 % 16 = (d : Int) := by omega
  have q3 : (w : Int) / 262144 % 16 = (a : Int) := by omega
  have q4 : (w : Int) % 16 = (b : Int) := by omega
  have HF := Lib.hid hf
  have H5 := Lib.hid C5
  have iw : (w : Int) < 4294967296 := by omega
  clear hf e1 e2 e3 e4 C5 hw 
  go_enter Tryz.func7, Tryz.ntmps7
  go_wp2_with fail
  refine (form_at _ 1 _ HF.out).mono ?_
  rintro e w' ⟨rfl, ⟨n1, rfl⟩⟩
  go_wp2_with fail
  refine (H5.out _).mono ?_
  rintro e w' ⟨rfl, hb⟩
  have hc := fun j => hb.cell (p := ⟨W.heap.size + 1, j, none⟩) (by simp)
  have hcr := fun j => hb.cell (p := ⟨W.heap.size, j, none⟩) (by simp; omega)
  have hz : W.heap.size + 1 < w'.heap.size := by have := hb.size; simp at this; omega
  have hfr := fun j => hb.frozen (p := ⟨W.heap.size, j, none⟩) (by simp; omega)
  have HB : Hid (Below W.heap.size W w') := Lib.hid (Below.trans (by repeat (first | exact Below.refl _ _ | refine bdrew ?_ _ | refine Below.alloc ?_ (by simp) _ | refine Below.setCell ?_ (by simp) _)) (hb.mono (by simp; omega)))
  clear hb
  go_wp2_with fail
  refine bodyPost_ret (v := .tuple #[.agg #[.int .i64 0, .int .i64 0, .int .i64 0, .int .i64 0, .int .i32 0], .bool false]) (by simp [results, Tryz.results7, go_sem, hcr]) rfl ⟨rfl, ?_⟩
  repeat (first | exact HB.out | refine Below.setCell ?_ (by simp) _)
set_option maxRecDepth 100000 in
set_option maxHeartbeats 1000000 in
theorem rdec_2_yes (w o d a f : Nat) (m : Int) (r : Nat) (W : World) (hw : w < 2 ^ 32) (lo : o < 64) (ld : d < 16) (la : a < 16) 
    (e1 : w / 67108864 = o) (e2 : w / 4194304 % 16 = d) (e3 : w / 262144 % 16 = a) (e4 : sgn w 18 = m) (hf : fmt (o : Int) = (f : Int)) (nf : f ≠ 1)
    (C5 : ∀ W, Calls Tryz.prog 21 #[.agg #[.int .i64 (o : Int), .int .i64 (d : Int), .int .i64 (a : Int), .int .i64 0, .int .i32 m]] W fun e w' => e = .returned (.tuple #[.int .u32 (r : Int), .bool true]) ∧ Below W.heap.size W w') (heq : r = w) :
    Calls Tryz.prog 7 #[.int .u32 (w : Int)] W fun e w' => e = .returned (.tuple #[.agg #[.int .i64 (o : Int), .int .i64 (d : Int), .int .i64 (a : Int), .int .i64 0, .int .i32 m], .bool true]) ∧ Below W.heap.size W w' := by
  have q1 : (w : Int) / 67108864 = (o : Int) := by omega
  have q2 : (w : Int) / 4194304 % 16 = (d : Int) := by omega
  have q3 : (w : Int) / 262144 % 16 = (a : Int) := by omega
  have C4 := Lib.hid (fun W => rsign_at w W hw)
  rw [e4] at C4
  have nfb : ((f : Int) == 1) = false := beq_eq_false_iff_ne.2 (by omega)
  have HF := Lib.hid hf
  have H5 := Lib.hid C5
  have iw : (w : Int) < 4294967296 := by omega
  have hne : ((r : Int) == (w : Int)) = true := by rw [beq_iff_eq]; omega
  have hne2 : ((r : Int) != (w : Int)) = false := by rw [bne_eq_false_iff_eq]; omega
  clear hf e1 e2 e3 e4 C5 hw heq nf
  go_enter Tryz.func7, Tryz.ntmps7
  go_wp2_with fail
  refine (form_at _ _ _ HF.out).mono ?_
  rintro e w' ⟨rfl, ⟨n1, rfl⟩⟩
  go_wp2_with fail
  refine (C4.out _).mono ?_
  rintro e w' ⟨rfl, ⟨n4, rfl⟩⟩
  go_wp2_with fail
  refine (H5.out _).mono ?_
  rintro e w' ⟨rfl, hb⟩
  have hc := fun j => hb.cell (p := ⟨W.heap.size + 1, j, none⟩) (by simp)
  have hcr := fun j => hb.cell (p := ⟨W.heap.size, j, none⟩) (by simp; omega)
  have hz : W.heap.size + 1 < w'.heap.size := by have := hb.size; simp at this; omega
  have hfr := fun j => hb.frozen (p := ⟨W.heap.size, j, none⟩) (by simp; omega)
  have HB : Hid (Below W.heap.size W w') := Lib.hid (Below.trans (by repeat (first | exact Below.refl _ _ | refine bdrew ?_ _ | refine Below.alloc ?_ (by simp) _ | refine Below.setCell ?_ (by simp) _)) (hb.mono (by simp; omega)))
  clear hb
  go_wp2_with fail
  refine bodyPost_ret (v := .tuple #[.agg #[.int .i64 (o : Int), .int .i64 (d : Int), .int .i64 (a : Int), .int .i64 0, .int .i32 m], .bool true]) (by simp [results, Tryz.results7, go_sem, hcr]) rfl ⟨rfl, ?_⟩
  repeat (first | exact HB.out | refine Below.setCell ?_ (by simp) _)
set_option maxRecDepth 100000 in
set_option maxHeartbeats 1000000 in
theorem rdec_2_part (w o d a f : Nat) (m : Int) (r : Nat) (W : World) (hw : w < 2 ^ 32) (lo : o < 64) (ld : d < 16) (la : a < 16) 
    (e1 : w / 67108864 = o) (e2 : w / 4194304 % 16 = d) (e3 : w / 262144 % 16 = a) (e4 : sgn w 18 = m) (hf : fmt (o : Int) = (f : Int)) (nf : f ≠ 1)
    (C5 : ∀ W, Calls Tryz.prog 21 #[.agg #[.int .i64 (o : Int), .int .i64 (d : Int), .int .i64 (a : Int), .int .i64 0, .int .i32 m]] W fun e w' => e = .returned (.tuple #[.int .u32 (r : Int), .bool true]) ∧ Below W.heap.size W w') (heq : r ≠ w) :
    Calls Tryz.prog 7 #[.int .u32 (w : Int)] W fun e w' => e = .returned (.tuple #[.agg #[.int .i64 0, .int .i64 0, .int .i64 0, .int .i64 0, .int .i32 0], .bool false]) ∧ Below W.heap.size W w' := by
  have q1 : (w : Int) / 67108864 = (o : Int) := by omega
  have q2 : (w : Int) / 4194304 % 16 = (d : Int) := by omega
  have q3 : (w : Int) / 262144 % 16 = (a : Int) := by omega
  have C4 := Lib.hid (fun W => rsign_at w W hw)
  rw [e4] at C4
  have nfb : ((f : Int) == 1) = false := beq_eq_false_iff_ne.2 (by omega)
  have HF := Lib.hid hf
  have H5 := Lib.hid C5
  have iw : (w : Int) < 4294967296 := by omega
  have hne : ((r : Int) == (w : Int)) = false := by rw [beq_eq_false_iff_ne]; omega
  have hne2 : ((r : Int) != (w : Int)) = true := by rw [bne_iff_ne]; omega
  clear hf e1 e2 e3 e4 C5 hw heq nf
  go_enter Tryz.func7, Tryz.ntmps7
  go_wp2_with fail
  refine (form_at _ _ _ HF.out).mono ?_
  rintro e w' ⟨rfl, ⟨n1, rfl⟩⟩
  go_wp2_with fail
  refine (C4.out _).mono ?_
  rintro e w' ⟨rfl, ⟨n4, rfl⟩⟩
  go_wp2_with fail
  refine (H5.out _).mono ?_
  rintro e w' ⟨rfl, hb⟩
  have hc := fun j => hb.cell (p := ⟨W.heap.size + 1, j, none⟩) (by simp)
  have hcr := fun j => hb.cell (p := ⟨W.heap.size, j, none⟩) (by simp; omega)
  have hz : W.heap.size + 1 < w'.heap.size := by have := hb.size; simp at this; omega
  have hfr := fun j => hb.frozen (p := ⟨W.heap.size, j, none⟩) (by simp; omega)
  have HB : Hid (Below W.heap.size W w') := Lib.hid (Below.trans (by repeat (first | exact Below.refl _ _ | refine bdrew ?_ _ | refine Below.alloc ?_ (by simp) _ | refine Below.setCell ?_ (by simp) _)) (hb.mono (by simp; omega)))
  clear hb
  go_wp2_with fail
  refine bodyPost_ret (v := .tuple #[.agg #[.int .i64 0, .int .i64 0, .int .i64 0, .int .i64 0, .int .i32 0], .bool false]) (by simp [results, Tryz.results7, go_sem, hcr]) rfl ⟨rfl, ?_⟩
  repeat (first | exact HB.out | refine Below.setCell ?_ (by simp) _)
set_option maxRecDepth 100000 in
set_option maxHeartbeats 1000000 in
theorem rdec_2_no (w o d a f : Nat) (m : Int) (r : Nat) (W : World) (hw : w < 2 ^ 32) (lo : o < 64) (ld : d < 16) (la : a < 16) 
    (e1 : w / 67108864 = o) (e2 : w / 4194304 % 16 = d) (e3 : w / 262144 % 16 = a) (e4 : sgn w 18 = m) (hf : fmt (o : Int) = (f : Int)) (nf : f ≠ 1)
    (C5 : ∀ W, Calls Tryz.prog 21 #[.agg #[.int .i64 (o : Int), .int .i64 (d : Int), .int .i64 (a : Int), .int .i64 0, .int .i32 m]] W fun e w' => e = .returned (.tuple #[.int .u32 (r : Int), .bool false]) ∧ Below W.heap.size W w') :
    Calls Tryz.prog 7 #[.int .u32 (w : Int)] W fun e w' => e = .returned (.tuple #[.agg #[.int .i64 0, .int .i64 0, .int .i64 0, .int .i64 0, .int .i32 0], .bool false]) ∧ Below W.heap.size W w' := by
  have q1 : (w : Int) / 67108864 = (o : Int) := by omega
  have q2 : (w : Int) / 4194304 % 16 = (d : Int) := by omega
  have q3 : (w : Int) / 262144 % 16 = (a : Int) := by omega
  have C4 := Lib.hid (fun W => rsign_at w W hw)
  rw [e4] at C4
  have nfb : ((f : Int) == 1) = false := beq_eq_false_iff_ne.2 (by omega)
  have HF := Lib.hid hf
  have H5 := Lib.hid C5
  have iw : (w : Int) < 4294967296 := by omega
  clear hf e1 e2 e3 e4 C5 hw nf
  go_enter Tryz.func7, Tryz.ntmps7
  go_wp2_with fail
  refine (form_at _ _ _ HF.out).mono ?_
  rintro e w' ⟨rfl, ⟨n1, rfl⟩⟩
  go_wp2_with fail
  refine (C4.out _).mono ?_
  rintro e w' ⟨rfl, ⟨n4, rfl⟩⟩
  go_wp2_with fail
  refine (H5.out _).mono ?_
  rintro e w' ⟨rfl, hb⟩
  have hc := fun j => hb.cell (p := ⟨W.heap.size + 1, j, none⟩) (by simp)
  have hcr := fun j => hb.cell (p := ⟨W.heap.size, j, none⟩) (by simp; omega)
  have hz : W.heap.size + 1 < w'.heap.size := by have := hb.size; simp at this; omega
  have hfr := fun j => hb.frozen (p := ⟨W.heap.size, j, none⟩) (by simp; omega)
  have HB : Hid (Below W.heap.size W w') := Lib.hid (Below.trans (by repeat (first | exact Below.refl _ _ | refine bdrew ?_ _ | refine Below.alloc ?_ (by simp) _ | refine Below.setCell ?_ (by simp) _)) (hb.mono (by simp; omega)))
  clear hb
  go_wp2_with fail
  refine bodyPost_ret (v := .tuple #[.agg #[.int .i64 0, .int .i64 0, .int .i64 0, .int .i64 0, .int .i32 0], .bool false]) (by simp [results, Tryz.results7, go_sem, hcr]) rfl ⟨rfl, ?_⟩
  repeat (first | exact HB.out | refine Below.setCell ?_ (by simp) _)
theorem rdec_any (w : Nat) (W : World) (hw : w < 2 ^ 32) :
    Calls Tryz.prog 7 #[.int .u32 (w : Int)] W fun e w' => e = .returned (.tuple #[(decR w).v, .bool (decOk w)]) ∧ Below W.heap.size W w' := by
  have lo : w / 67108864 < 64 := by omega
  obtain ⟨r, hr⟩ : ∃ r, encR (decI w) = r := ⟨_, rfl⟩
  obtain ⟨ok, hok⟩ : ∃ ok, vld (decI w) = ok := ⟨_, rfl⟩
  have sm : small (decI w).imm := by
    unfold decI
    split
    · exact ⟨by dsimp only; omega, by dsimp only; omega⟩
    · have := sgn_fits (v := w) (n := 18) (by omega)
      exact ⟨by dsimp only; omega, by dsimp only; omega⟩
  have C5 := fun W => renc_at (decI w) r ok W sm hr hok
  have hOk : decOk w = (ok && (r == w)) := by
    unfold decOk
    rw [hok, ← hr]
    unfold encR
    rw [hok]
    cases ok <;> simp
  have hR : decR w = if (ok && (r == w)) = true then decI w else nilI := by unfold decR; rw [hOk]
  rw [hR, hOk]
  by_cases hf : fmt ((w / 67108864 : Nat) : Int) = 1
  · have hI : decI w = ⟨((w / 67108864 : Nat) : Int), ((w / 4194304 % 16 : Nat) : Int), ((w / 262144 % 16 : Nat) : Int), ((w % 16 : Nat) : Int), 0⟩ := by unfold decI; rw [if_pos hf]
    rw [hI] at C5 ⊢
    cases ok with
    | false =>
      rw [Bool.false_and, if_neg (by decide)]
      exact rdec_1_no w _ _ _ _ r W hw lo (by omega) (by omega) (by omega) rfl rfl rfl rfl hf C5
    | true =>
      by_cases heq : r = w
      · rw [beq_iff_eq.2 heq, Bool.and_self, if_pos rfl]
        exact rdec_1_yes w _ _ _ _ r W hw lo (by omega) (by omega) (by omega) rfl rfl rfl rfl hf C5 heq
      · rw [beq_eq_false_iff_ne.2 heq, Bool.and_false, if_neg (by decide)]
        exact rdec_1_part w _ _ _ _ r W hw lo (by omega) (by omega) (by omega) rfl rfl rfl rfl hf C5 heq
  · have hI : decI w = ⟨((w / 67108864 : Nat) : Int), ((w / 4194304 % 16 : Nat) : Int), ((w / 262144 % 16 : Nat) : Int), 0, sgn w 18⟩ := by unfold decI; rw [if_neg hf]
    rw [hI] at C5 ⊢
    obtain ⟨f, hf', _⟩ : ∃ f : Nat, fmt ((w / 67108864 : Nat) : Int) = (f : Int) ∧ f < 8 := by
      rcases fmt_cases ((w / 67108864 : Nat) : Int) with e | e | e | e | e | e | e | e
      · exact ⟨0, e, by omega⟩
      · exact ⟨1, e, by omega⟩
      · exact ⟨2, e, by omega⟩
      · exact ⟨3, e, by omega⟩
      · exact ⟨4, e, by omega⟩
      · exact ⟨5, e, by omega⟩
      · exact ⟨6, e, by omega⟩
      · exact ⟨7, e, by omega⟩
    have nf : f ≠ 1 := by intro e; subst e; exact hf hf'
    cases ok with
    | false =>
      rw [Bool.false_and, if_neg (by decide)]
      exact rdec_2_no w _ _ _ f _ r W hw lo (by omega) (by omega) rfl rfl rfl rfl hf' nf C5
    | true =>
      by_cases heq : r = w
      · rw [beq_iff_eq.2 heq, Bool.and_self, if_pos rfl]
        exact rdec_2_yes w _ _ _ f _ r W hw lo (by omega) (by omega) rfl rfl rfl rfl hf' nf C5 heq
      · rw [beq_eq_false_iff_ne.2 heq, Bool.and_false, if_neg (by decide)]
        exact rdec_2_part w _ _ _ f _ r W hw lo (by omega) (by omega) rfl rfl rfl rfl hf' nf C5 heq
end Go.Proofs.YtihnglgknncgpaaGreatDoor.Isa
