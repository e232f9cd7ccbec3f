/- The law IsaUnusedBitsMustBeZero, walked. -/
import Derived.Test.YtpajnomngjllpaaDoorIsaP3
namespace Go.Proofs.YtpajnomngjllpaaDoor.Isa
open Go Go.RowKit Go.Proofs.YtpajnomngjllpaaDoor.PIsaUnusedBitsMustBeZero Go.Proofs.YtpajnomngjllpaaDoorW.PrintWords Go.Proofs.YtpajnomngjllpaaDoorW.PrintLast Go.Proofs.YtpajnomngjllpaaDoorW.PrintMore Go.Proofs.YtpajnomngjllpaaDoor.Bm
set_option linter.unusedVariables false
set_option linter.unusedSimpArgs false
theorem put_at (x p n v r : Nat) (P N : Int) (hP : P = p) (hN : N = n) (w : World) (hx : x < 2 ^ 32) (hv : v < 2 ^ 32) (hp : p + n ≤ 32) (hr : ins x p n v = r) :
    Calls Tryd.prog 19 #[.int .u32 (x : Int), .int .i64 P, .int .i64 N, .int .u32 (v : Int)] w fun e w' => e = .returned (.int .u32 (r : Int)) ∧ ∃ n, w' = w.drewN n := by
  subst hP hN hr; exact (gaolerref01_Put.calls 200 _ _ _ _ _ _ (i_put 200 x p n v hx hv hp (by omega))).mono fun _ _ ⟨he, hd⟩ => ⟨he, hd.out⟩
set_option maxRecDepth 100000 in
set_option maxHeartbeats 4000000 in
theorem law3_no (i : In) (b : Nat) (hx : small i.imm) (W : World) (hT : Tabs W) (hv : vld i = false) :
    Calls Tryd.prog 5 #[i.v, .int .u8 (b : Int)] W fun e w' => e = .returned (.bool true) ∧ Below W.heap.size W w' := by
  have M := Lib.hid (fun W => may_at i false W hx hv)
  clear hv hx
  obtain ⟨i0, i1, i2, i3, i4⟩ := i
  simp only [In.v] at M ⊢
  have HT := Lib.hid hT
  clear hT
  go_enter Tryd.func5, Tryd.ntmps5
  go_wp2_with fail
  refine (awake_any _ (HT.out.later ((Below.refl _ W).alloc (Nat.le_refl _) _))).mono ?_
  rintro e w1 ⟨rfl, hb⟩
  have B1 : Hid (Below W.heap.size W w1) := Lib.hid (((Below.refl _ W).alloc (Nat.le_refl _) _).trans (hb.mono (by simp)))
  have z1 : W.heap.size < w1.heap.size := by have := hb.size; simp at this; omega
  have a1 := keep0 hb (by simp) (keepN W _ _)
  clear hb
  go_wp2_with fail
  refine (M.out _).mono ?_
  rintro e w2 ⟨rfl, hb⟩
  have B2 : Hid (Below W.heap.size W w2) := Lib.hid (B1.out.trans (hb.mono (by omega)))
  clear hb a1
  go_wp2_with fail
  refine (awake_any _ (HT.out.later B2.out)).mono ?_
  rintro e w3 ⟨rfl, hb⟩
  have hz : W.heap.size ≤ w2.heap.size := B2.out.size
  have B3 : Hid (Below W.heap.size W w3) := Lib.hid (B2.out.trans (hb.mono (by omega)))
  clear hb
  go_wp2_with fail
  go_ret
  exact ⟨by simp, B3.out⟩
set_option maxRecDepth 100000 in
set_option maxHeartbeats 4000000 in
theorem law3_1y (i : In) (b k : Nat) (hx : small i.imm) (W : World) (hT : Tabs W) (hv : vld i = true) (hb : b < 256) (hkb : b % 18 = k) (hf : fmt i.op = 1) (hok : decOk (turn (encW i) k) = true) (h4 : (k : Int) < 4) :
    Calls Tryd.prog 5 #[i.v, .int .u8 (b : Int)] W fun e w' => e = .returned (.bool true) ∧ Below W.heap.size W w' := by
  have lk : k < 18 := by omega
  obtain ⟨w, hw⟩ : ∃ w, encW i = w := ⟨_, rfl⟩
  have lw : w < 2 ^ 32 := by rw [← hw]; exact encW_lt hv
  obtain ⟨t, ht⟩ : ∃ t, turn w k = t := ⟨_, rfl⟩
  have lt : t < 2 ^ 32 := by rw [← ht]; exact turn_lt lw (by omega)
  obtain ⟨g, hg⟩ : ∃ g, fld w k 1 = g := ⟨_, rfl⟩
  have lg : g ≤ 1 := by rw [← hg, fld_one]; exact Bool.toNat_le _
  rw [hw, ht] at hok
  obtain ⟨r, hr⟩ : ∃ r, decR t = r := ⟨_, rfl⟩
  have M := Lib.hid (fun W => may_at i true W hx hv)
  have E := Lib.hid (fun W hT => encode_at i w true W hT (by unfold encR; rw [if_pos hv]; exact hw) hv)
  have F := Lib.hid (fun W hT => format_at i.op 1 W hT hf)
  have FL := Lib.hid (fun W => field_at w k 1 g k 1 rfl rfl W lw (by omega) (by omega) hg)
  have PU := Lib.hid (fun W => put_at w k 1 (1 - g) t k 1 rfl rfl W lw (by omega) (by omega) (by rw [← hg]; exact ht))
  have D := Lib.hid (fun W hT => decode_at t r true W hT lt hr hok)
  have ek : (b : Int) % 18 = (k : Int) := by omega
  have eg : (1 : Int) - (g : Int) = ((1 - g : Nat) : Int) := by omega
  have egw : IntKind.u32.wrap (1 - (g : Int)) = ((1 - g : Nat) : Int) := by rw [IntKind.wrap_u32]; omega
  have lgi : (g : Int) ≤ 1 := by omega
  clear hv hx hf hok hkb hw ht hg hr 
  obtain ⟨i0, i1, i2, i3, i4⟩ := i
  obtain ⟨r0, r1, r2, r3, r4⟩ := r
  simp only [In.v] at M E D ⊢
  dsimp only at F
  have HT := Lib.hid hT
  clear hT
  go_enter Tryd.func5, Tryd.ntmps5
  go_wp2_with fail
  refine (awake_any _ (HT.out.later ((Below.refl _ W).alloc (Nat.le_refl _) _))).mono ?_
  rintro e w1 ⟨rfl, hb⟩
  have B1 : Hid (Below W.heap.size W w1) := Lib.hid (((Below.refl _ W).alloc (Nat.le_refl _) _).trans (hb.mono (by simp)))
  have z1 : W.heap.size < w1.heap.size := by have := hb.size; simp at this; omega
  have a1 := keep0 hb (by simp) (keepN W _ _)
  clear hb
  go_wp2_with fail
  refine (M.out _).mono ?_
  rintro e w2 ⟨rfl, hb⟩
  have B2 : Hid (Below W.heap.size W w2) := Lib.hid (B1.out.trans (hb.mono (by omega)))
  have z2 : W.heap.size < w2.heap.size := by have := hb.size; omega
  have a2 := keep0 hb z1 a1
  clear hb a1
  go_wp2_with fail
  refine (E.out _ (HT.out.later B2.out)).mono ?_
  rintro e w3 ⟨rfl, hb⟩
  have B3 : Hid (Below W.heap.size W w3) := Lib.hid (B2.out.trans (hb.mono (by omega)))
  have z3 : W.heap.size < w3.heap.size := by have := hb.size; omega
  have a3 := keep0 hb z2 a2
  clear hb a2
  go_wp2_with fail
  refine (F.out _ (HT.out.later B3.out)).mono ?_
  rintro e w4 ⟨rfl, rfl⟩
  go_wp2_with fail
  refine (FL.out _).mono ?_
  rintro e w4 ⟨rfl, ⟨n1, rfl⟩⟩
  go_wp2_with fail
  refine (PU.out _).mono ?_
  rintro e w4 ⟨rfl, ⟨n2, rfl⟩⟩
  go_wp2_with fail
  refine (D.out _ (HT.out.later (bdrew B3.out _))).mono ?_
  rintro e w4 ⟨rfl, hb⟩
  have B4 : Hid (Below W.heap.size W w4) := Lib.hid ((bdrew B3.out _).trans (hb.mono (by simp; omega)))
  have z4 : W.heap.size < w4.heap.size := by have := hb.size; simp at this; omega
  clear hb a3
  go_wp2_with fail
  go_ret
  exact ⟨by first | (simp; done) | (simp; omega), by repeat (first | exact B4.out.alloc (by omega) _ | refine bdrew ?_ _)⟩
set_option maxRecDepth 100000 in
set_option maxHeartbeats 4000000 in
theorem law3_1n (i : In) (b k : Nat) (hx : small i.imm) (W : World) (hT : Tabs W) (hv : vld i = true) (hb : b < 256) (hkb : b % 18 = k) (hf : fmt i.op = 1) (hok : decOk (turn (encW i) k) = false) (h4 : ¬ (k : Int) < 4) :
    Calls Tryd.prog 5 #[i.v, .int .u8 (b : Int)] W fun e w' => e = .returned (.bool true) ∧ Below W.heap.size W w' := by
  have lk : k < 18 := by omega
  obtain ⟨w, hw⟩ : ∃ w, encW i = w := ⟨_, rfl⟩
  have lw : w < 2 ^ 32 := by rw [← hw]; exact encW_lt hv
  obtain ⟨t, ht⟩ : ∃ t, turn w k = t := ⟨_, rfl⟩
  have lt : t < 2 ^ 32 := by rw [← ht]; exact turn_lt lw (by omega)
  obtain ⟨g, hg⟩ : ∃ g, fld w k 1 = g := ⟨_, rfl⟩
  have lg : g ≤ 1 := by rw [← hg, fld_one]; exact Bool.toNat_le _
  rw [hw, ht] at hok
  obtain ⟨r, hr⟩ : ∃ r, decR t = r := ⟨_, rfl⟩
  have M := Lib.hid (fun W => may_at i true W hx hv)
  have E := Lib.hid (fun W hT => encode_at i w true W hT (by unfold encR; rw [if_pos hv]; exact hw) hv)
  have F := Lib.hid (fun W hT => format_at i.op 1 W hT hf)
  have FL := Lib.hid (fun W => field_at w k 1 g k 1 rfl rfl W lw (by omega) (by omega) hg)
  have PU := Lib.hid (fun W => put_at w k 1 (1 - g) t k 1 rfl rfl W lw (by omega) (by omega) (by rw [← hg]; exact ht))
  have D := Lib.hid (fun W hT => decode_at t r false W hT lt hr hok)
  have ek : (b : Int) % 18 = (k : Int) := by omega
  have eg : (1 : Int) - (g : Int) = ((1 - g : Nat) : Int) := by omega
  have egw : IntKind.u32.wrap (1 - (g : Int)) = ((1 - g : Nat) : Int) := by rw [IntKind.wrap_u32]; omega
  have lgi : (g : Int) ≤ 1 := by omega
  clear hv hx hf hok hkb hw ht hg hr 
  obtain ⟨i0, i1, i2, i3, i4⟩ := i
  obtain ⟨r0, r1, r2, r3, r4⟩ := r
  simp only [In.v] at M E D ⊢
  dsimp only at F
  have HT := Lib.hid hT
  clear hT
  go_enter Tryd.func5, Tryd.ntmps5
  go_wp2_with fail
  refine (awake_any _ (HT.out.later ((Below.refl _ W).alloc (Nat.le_refl _) _))).mono ?_
  rintro e w1 ⟨rfl, hb⟩
  have B1 : Hid (Below W.heap.size W w1) := Lib.hid (((Below.refl _ W).alloc (Nat.le_refl _) _).trans (hb.mono (by simp)))
  have z1 : W.heap.size < w1.heap.size := by have := hb.size; simp at this; omega
  have a1 := keep0 hb (by simp) (keepN W _ _)
  clear hb
  go_wp2_with fail
  refine (M.out _).mono ?_
  rintro e w2 ⟨rfl, hb⟩
  have B2 : Hid (Below W.heap.size W w2) := Lib.hid (B1.out.trans (hb.mono (by omega)))
  have z2 : W.heap.size < w2.heap.size := by have := hb.size; omega
  have a2 := keep0 hb z1 a1
  clear hb a1
  go_wp2_with fail
  refine (E.out _ (HT.out.later B2.out)).mono ?_
  rintro e w3 ⟨rfl, hb⟩
  have B3 : Hid (Below W.heap.size W w3) := Lib.hid (B2.out.trans (hb.mono (by omega)))
  have z3 : W.heap.size < w3.heap.size := by have := hb.size; omega
  have a3 := keep0 hb z2 a2
  clear hb a2
  go_wp2_with fail
  refine (F.out _ (HT.out.later B3.out)).mono ?_
  rintro e w4 ⟨rfl, rfl⟩
  go_wp2_with fail
  refine (FL.out _).mono ?_
  rintro e w4 ⟨rfl, ⟨n1, rfl⟩⟩
  go_wp2_with fail
  refine (PU.out _).mono ?_
  rintro e w4 ⟨rfl, ⟨n2, rfl⟩⟩
  go_wp2_with fail
  refine (D.out _ (HT.out.later (bdrew B3.out _))).mono ?_
  rintro e w4 ⟨rfl, hb⟩
  have B4 : Hid (Below W.heap.size W w4) := Lib.hid ((bdrew B3.out _).trans (hb.mono (by simp; omega)))
  have z4 : W.heap.size < w4.heap.size := by have := hb.size; simp at this; omega
  clear hb a3
  go_wp2_with fail
  go_ret
  exact ⟨by first | (simp; done) | (simp; omega), by repeat (first | exact B4.out.alloc (by omega) _ | refine bdrew ?_ _)⟩
set_option maxRecDepth 100000 in
set_option maxHeartbeats 4000000 in
theorem law3_2 (i : In) (b k : Nat) (hx : small i.imm) (W : World) (hT : Tabs W) (hv : vld i = true) (hb : b < 256) (hkb : b % 18 = k) (hf : fmt i.op = 2) (hok : decOk (turn (encW i) k) = true) :
    Calls Tryd.prog 5 #[i.v, .int .u8 (b : Int)] W fun e w' => e = .returned (.bool true) ∧ Below W.heap.size W w' := by
  have lk : k < 18 := by omega
  obtain ⟨w, hw⟩ : ∃ w, encW i = w := ⟨_, rfl⟩
  have lw : w < 2 ^ 32 := by rw [← hw]; exact encW_lt hv
  obtain ⟨t, ht⟩ : ∃ t, turn w k = t := ⟨_, rfl⟩
  have lt : t < 2 ^ 32 := by rw [← ht]; exact turn_lt lw (by omega)
  obtain ⟨g, hg⟩ : ∃ g, fld w k 1 = g := ⟨_, rfl⟩
  have lg : g ≤ 1 := by rw [← hg, fld_one]; exact Bool.toNat_le _
  rw [hw, ht] at hok
  obtain ⟨r, hr⟩ : ∃ r, decR t = r := ⟨_, rfl⟩
  have M := Lib.hid (fun W => may_at i true W hx hv)
  have E := Lib.hid (fun W hT => encode_at i w true W hT (by unfold encR; rw [if_pos hv]; exact hw) hv)
  have F := Lib.hid (fun W hT => format_at i.op 2 W hT hf)
  have FL := Lib.hid (fun W => field_at w k 1 g k 1 rfl rfl W lw (by omega) (by omega) hg)
  have PU := Lib.hid (fun W => put_at w k 1 (1 - g) t k 1 rfl rfl W lw (by omega) (by omega) (by rw [← hg]; exact ht))
  have D := Lib.hid (fun W hT => decode_at t r true W hT lt hr hok)
  have ek : (b : Int) % 18 = (k : Int) := by omega
  have eg : (1 : Int) - (g : Int) = ((1 - g : Nat) : Int) := by omega
  have egw : IntKind.u32.wrap (1 - (g : Int)) = ((1 - g : Nat) : Int) := by rw [IntKind.wrap_u32]; omega
  have lgi : (g : Int) ≤ 1 := by omega
  clear hv hx hf hok hkb hw ht hg hr 
  obtain ⟨i0, i1, i2, i3, i4⟩ := i
  obtain ⟨r0, r1, r2, r3, r4⟩ := r
  simp only [In.v] at M E D ⊢
  dsimp only at F
  have HT := Lib.hid hT
  clear hT
  go_enter Tryd.func5, Tryd.ntmps5
  go_wp2_with fail
  refine (awake_any _ (HT.out.later ((Below.refl _ W).alloc (Nat.le_refl _) _))).mono ?_
  rintro e w1 ⟨rfl, hb⟩
  have B1 : Hid (Below W.heap.size W w1) := Lib.hid (((Below.refl _ W).alloc (Nat.le_refl _) _).trans (hb.mono (by simp)))
  have z1 : W.heap.size < w1.heap.size := by have := hb.size; simp at this; omega
  have a1 := keep0 hb (by simp) (keepN W _ _)
  clear hb
  go_wp2_with fail
  refine (M.out _).mono ?_
  rintro e w2 ⟨rfl, hb⟩
  have B2 : Hid (Below W.heap.size W w2) := Lib.hid (B1.out.trans (hb.mono (by omega)))
  have z2 : W.heap.size < w2.heap.size := by have := hb.size; omega
  have a2 := keep0 hb z1 a1
  clear hb a1
  go_wp2_with fail
  refine (E.out _ (HT.out.later B2.out)).mono ?_
  rintro e w3 ⟨rfl, hb⟩
  have B3 : Hid (Below W.heap.size W w3) := Lib.hid (B2.out.trans (hb.mono (by omega)))
  have z3 : W.heap.size < w3.heap.size := by have := hb.size; omega
  have a3 := keep0 hb z2 a2
  clear hb a2
  go_wp2_with fail
  refine (F.out _ (HT.out.later B3.out)).mono ?_
  rintro e w4 ⟨rfl, rfl⟩
  go_wp2_with fail
  refine (FL.out _).mono ?_
  rintro e w4 ⟨rfl, ⟨n1, rfl⟩⟩
  go_wp2_with fail
  refine (PU.out _).mono ?_
  rintro e w4 ⟨rfl, ⟨n2, rfl⟩⟩
  go_wp2_with fail
  refine (D.out _ (HT.out.later (bdrew B3.out _))).mono ?_
  rintro e w4 ⟨rfl, hb⟩
  have B4 : Hid (Below W.heap.size W w4) := Lib.hid ((bdrew B3.out _).trans (hb.mono (by simp; omega)))
  have z4 : W.heap.size < w4.heap.size := by have := hb.size; simp at this; omega
  clear hb a3
  go_wp2_with fail
  go_ret
  exact ⟨by first | (simp; done) | (simp; omega), by repeat (first | exact B4.out.alloc (by omega) _ | refine bdrew ?_ _)⟩
set_option maxRecDepth 100000 in
set_option maxHeartbeats 4000000 in
theorem law3_3 (i : In) (b k : Nat) (hx : small i.imm) (W : World) (hT : Tabs W) (hv : vld i = true) (hb : b < 256) (hkb : b % 18 = k) (hf : fmt i.op = 3) (hok : decOk (turn (encW i) k) = true) :
    Calls Tryd.prog 5 #[i.v, .int .u8 (b : Int)] W fun e w' => e = .returned (.bool true) ∧ Below W.heap.size W w' := by
  have lk : k < 18 := by omega
  obtain ⟨w, hw⟩ : ∃ w, encW i = w := ⟨_, rfl⟩
  have lw : w < 2 ^ 32 := by rw [← hw]; exact encW_lt hv
  obtain ⟨t, ht⟩ : ∃ t, turn w k = t := ⟨_, rfl⟩
  have lt : t < 2 ^ 32 := by rw [← ht]; exact turn_lt lw (by omega)
  obtain ⟨g, hg⟩ : ∃ g, fld w k 1 = g := ⟨_, rfl⟩
  have lg : g ≤ 1 := by rw [← hg, fld_one]; exact Bool.toNat_le _
  rw [hw, ht] at hok
  obtain ⟨r, hr⟩ : ∃ r, decR t = r := ⟨_, rfl⟩
  have M := Lib.hid (fun W => may_at i true W hx hv)
  have E := Lib.hid (fun W hT => encode_at i w true W hT (by unfold encR; rw [if_pos hv]; exact hw) hv)
  have F := Lib.hid (fun W hT => format_at i.op 3 W hT hf)
  have FL := Lib.hid (fun W => field_at w k 1 g k 1 rfl rfl W lw (by omega) (by omega) hg)
  have PU := Lib.hid (fun W => put_at w k 1 (1 - g) t k 1 rfl rfl W lw (by omega) (by omega) (by rw [← hg]; exact ht))
  have D := Lib.hid (fun W hT => decode_at t r true W hT lt hr hok)
  have ek : (b : Int) % 18 = (k : Int) := by omega
  have eg : (1 : Int) - (g : Int) = ((1 - g : Nat) : Int) := by omega
  have egw : IntKind.u32.wrap (1 - (g : Int)) = ((1 - g : Nat) : Int) := by rw [IntKind.wrap_u32]; omega
  have lgi : (g : Int) ≤ 1 := by omega
  clear hv hx hf hok hkb hw ht hg hr 
  obtain ⟨i0, i1, i2, i3, i4⟩ := i
  obtain ⟨r0, r1, r2, r3, r4⟩ := r
  simp only [In.v] at M E D ⊢
  dsimp only at F
  have HT := Lib.hid hT
  clear hT
  go_enter Tryd.func5, Tryd.ntmps5
  go_wp2_with fail
  refine (awake_any _ (HT.out.later ((Below.refl _ W).alloc (Nat.le_refl _) _))).mono ?_
  rintro e w1 ⟨rfl, hb⟩
  have B1 : Hid (Below W.heap.size W w1) := Lib.hid (((Below.refl _ W).alloc (Nat.le_refl _) _).trans (hb.mono (by simp)))
  have z1 : W.heap.size < w1.heap.size := by have := hb.size; simp at this; omega
  have a1 := keep0 hb (by simp) (keepN W _ _)
  clear hb
  go_wp2_with fail
  refine (M.out _).mono ?_
  rintro e w2 ⟨rfl, hb⟩
  have B2 : Hid (Below W.heap.size W w2) := Lib.hid (B1.out.trans (hb.mono (by omega)))
  have z2 : W.heap.size < w2.heap.size := by have := hb.size; omega
  have a2 := keep0 hb z1 a1
  clear hb a1
  go_wp2_with fail
  refine (E.out _ (HT.out.later B2.out)).mono ?_
  rintro e w3 ⟨rfl, hb⟩
  have B3 : Hid (Below W.heap.size W w3) := Lib.hid (B2.out.trans (hb.mono (by omega)))
  have z3 : W.heap.size < w3.heap.size := by have := hb.size; omega
  have a3 := keep0 hb z2 a2
  clear hb a2
  go_wp2_with fail
  refine (F.out _ (HT.out.later B3.out)).mono ?_
  rintro e w4 ⟨rfl, rfl⟩
  go_wp2_with fail
  refine (FL.out _).mono ?_
  rintro e w4 ⟨rfl, ⟨n1, rfl⟩⟩
  go_wp2_with fail
  refine (PU.out _).mono ?_
  rintro e w4 ⟨rfl, ⟨n2, rfl⟩⟩
  go_wp2_with fail
  refine (D.out _ (HT.out.later (bdrew B3.out _))).mono ?_
  rintro e w4 ⟨rfl, hb⟩
  have B4 : Hid (Below W.heap.size W w4) := Lib.hid ((bdrew B3.out _).trans (hb.mono (by simp; omega)))
  have z4 : W.heap.size < w4.heap.size := by have := hb.size; simp at this; omega
  clear hb a3
  go_wp2_with fail
  go_ret
  exact ⟨by first | (simp; done) | (simp; omega), by repeat (first | exact B4.out.alloc (by omega) _ | refine bdrew ?_ _)⟩
set_option maxRecDepth 100000 in
set_option maxHeartbeats 4000000 in
theorem law3_4 (i : In) (b k : Nat) (hx : small i.imm) (W : World) (hT : Tabs W) (hv : vld i = true) (hb : b < 256) (hkb : b % 18 = k) (hf : fmt i.op = 4) (hok : decOk (turn (encW i) k) = false) :
    Calls Tryd.prog 5 #[i.v, .int .u8 (b : Int)] W fun e w' => e = .returned (.bool true) ∧ Below W.heap.size W w' := by
  have lk : k < 18 := by omega
  obtain ⟨w, hw⟩ : ∃ w, encW i = w := ⟨_, rfl⟩
  have lw : w < 2 ^ 32 := by rw [← hw]; exact encW_lt hv
  obtain ⟨t, ht⟩ : ∃ t, turn w k = t := ⟨_, rfl⟩
  have lt : t < 2 ^ 32 := by rw [← ht]; exact turn_lt lw (by omega)
  obtain ⟨g, hg⟩ : ∃ g, fld w k 1 = g := ⟨_, rfl⟩
  have lg : g ≤ 1 := by rw [← hg, fld_one]; exact Bool.toNat_le _
  rw [hw, ht] at hok
  obtain ⟨r, hr⟩ : ∃ r, decR t = r := ⟨_, rfl⟩
  have M := Lib.hid (fun W => may_at i true W hx hv)
  have E := Lib.hid (fun W hT => encode_at i w true W hT (by unfold encR; rw [if_pos hv]; exact hw) hv)
  have F := Lib.hid (fun W hT => format_at i.op 4 W hT hf)
  have FL := Lib.hid (fun W => field_at w k 1 g k 1 rfl rfl W lw (by omega) (by omega) hg)
  have PU := Lib.hid (fun W => put_at w k 1 (1 - g) t k 1 rfl rfl W lw (by omega) (by omega) (by rw [← hg]; exact ht))
  have D := Lib.hid (fun W hT => decode_at t r false W hT lt hr hok)
  have ek : (b : Int) % 18 = (k : Int) := by omega
  have eg : (1 : Int) - (g : Int) = ((1 - g : Nat) : Int) := by omega
  have egw : IntKind.u32.wrap (1 - (g : Int)) = ((1 - g : Nat) : Int) := by rw [IntKind.wrap_u32]; omega
  have lgi : (g : Int) ≤ 1 := by omega
  clear hv hx hf hok hkb hw ht hg hr 
  obtain ⟨i0, i1, i2, i3, i4⟩ := i
  obtain ⟨r0, r1, r2, r3, r4⟩ := r
  simp only [In.v] at M E D ⊢
  dsimp only at F
  have HT := Lib.hid hT
  clear hT
  go_enter Tryd.func5, Tryd.ntmps5
  go_wp2_with fail
  refine (awake_any _ (HT.out.later ((Below.refl _ W).alloc (Nat.le_refl _) _))).mono ?_
  rintro e w1 ⟨rfl, hb⟩
  have B1 : Hid (Below W.heap.size W w1) := Lib.hid (((Below.refl _ W).alloc (Nat.le_refl _) _).trans (hb.mono (by simp)))
  have z1 : W.heap.size < w1.heap.size := by have := hb.size; simp at this; omega
  have a1 := keep0 hb (by simp) (keepN W _ _)
  clear hb
  go_wp2_with fail
  refine (M.out _).mono ?_
  rintro e w2 ⟨rfl, hb⟩
  have B2 : Hid (Below W.heap.size W w2) := Lib.hid (B1.out.trans (hb.mono (by omega)))
  have z2 : W.heap.size < w2.heap.size := by have := hb.size; omega
  have a2 := keep0 hb z1 a1
  clear hb a1
  go_wp2_with fail
  refine (E.out _ (HT.out.later B2.out)).mono ?_
  rintro e w3 ⟨rfl, hb⟩
  have B3 : Hid (Below W.heap.size W w3) := Lib.hid (B2.out.trans (hb.mono (by omega)))
  have z3 : W.heap.size < w3.heap.size := by have := hb.size; omega
  have a3 := keep0 hb z2 a2
  clear hb a2
  go_wp2_with fail
  refine (F.out _ (HT.out.later B3.out)).mono ?_
  rintro e w4 ⟨rfl, rfl⟩
  go_wp2_with fail
  refine (FL.out _).mono ?_
  rintro e w4 ⟨rfl, ⟨n1, rfl⟩⟩
  go_wp2_with fail
  refine (PU.out _).mono ?_
  rintro e w4 ⟨rfl, ⟨n2, rfl⟩⟩
  go_wp2_with fail
  refine (D.out _ (HT.out.later (bdrew B3.out _))).mono ?_
  rintro e w4 ⟨rfl, hb⟩
  have B4 : Hid (Below W.heap.size W w4) := Lib.hid ((bdrew B3.out _).trans (hb.mono (by simp; omega)))
  have z4 : W.heap.size < w4.heap.size := by have := hb.size; simp at this; omega
  clear hb a3
  go_wp2_with fail
  go_ret
  exact ⟨by first | (simp; done) | (simp; omega), by repeat (first | exact B4.out.alloc (by omega) _ | refine bdrew ?_ _)⟩
set_option maxRecDepth 100000 in
set_option maxHeartbeats 4000000 in
theorem law3_7 (i : In) (b k : Nat) (hx : small i.imm) (W : World) (hT : Tabs W) (hv : vld i = true) (hb : b < 256) (hkb : b % 18 = k) (hf : fmt i.op = 7) (hok : decOk (turn (encW i) k) = false) :
    Calls Tryd.prog 5 #[i.v, .int .u8 (b : Int)] W fun e w' => e = .returned (.bool true) ∧ Below W.heap.size W w' := by
  have lk : k < 18 := by omega
  obtain ⟨w, hw⟩ : ∃ w, encW i = w := ⟨_, rfl⟩
  have lw : w < 2 ^ 32 := by rw [← hw]; exact encW_lt hv
  obtain ⟨t, ht⟩ : ∃ t, turn w k = t := ⟨_, rfl⟩
  have lt : t < 2 ^ 32 := by rw [← ht]; exact turn_lt lw (by omega)
  obtain ⟨g, hg⟩ : ∃ g, fld w k 1 = g := ⟨_, rfl⟩
  have lg : g ≤ 1 := by rw [← hg, fld_one]; exact Bool.toNat_le _
  rw [hw, ht] at hok
  obtain ⟨r, hr⟩ : ∃ r, decR t = r := ⟨_, rfl⟩
  have M := Lib.hid (fun W => may_at i true W hx hv)
  have E := Lib.hid (fun W hT => encode_at i w true W hT (by unfold encR; rw [if_pos hv]; exact hw) hv)
  have F := Lib.hid (fun W hT => format_at i.op 7 W hT hf)
  have FL := Lib.hid (fun W => field_at w k 1 g k 1 rfl rfl W lw (by omega) (by omega) hg)
  have PU := Lib.hid (fun W => put_at w k 1 (1 - g) t k 1 rfl rfl W lw (by omega) (by omega) (by rw [← hg]; exact ht))
  have D := Lib.hid (fun W hT => decode_at t r false W hT lt hr hok)
  have ek : (b : Int) % 18 = (k : Int) := by omega
  have eg : (1 : Int) - (g : Int) = ((1 - g : Nat) : Int) := by omega
  have egw : IntKind.u32.wrap (1 - (g : Int)) = ((1 - g : Nat) : Int) := by rw [IntKind.wrap_u32]; omega
  have lgi : (g : Int) ≤ 1 := by omega
  clear hv hx hf hok hkb hw ht hg hr 
  obtain ⟨i0, i1, i2, i3, i4⟩ := i
  obtain ⟨r0, r1, r2, r3, r4⟩ := r
  simp only [In.v] at M E D ⊢
  dsimp only at F
  have HT := Lib.hid hT
  clear hT
  go_enter Tryd.func5, Tryd.ntmps5
  go_wp2_with fail
  refine (awake_any _ (HT.out.later ((Below.refl _ W).alloc (Nat.le_refl _) _))).mono ?_
  rintro e w1 ⟨rfl, hb⟩
  have B1 : Hid (Below W.heap.size W w1) := Lib.hid (((Below.refl _ W).alloc (Nat.le_refl _) _).trans (hb.mono (by simp)))
  have z1 : W.heap.size < w1.heap.size := by have := hb.size; simp at this; omega
  have a1 := keep0 hb (by simp) (keepN W _ _)
  clear hb
  go_wp2_with fail
  refine (M.out _).mono ?_
  rintro e w2 ⟨rfl, hb⟩
  have B2 : Hid (Below W.heap.size W w2) := Lib.hid (B1.out.trans (hb.mono (by omega)))
  have z2 : W.heap.size < w2.heap.size := by have := hb.size; omega
  have a2 := keep0 hb z1 a1
  clear hb a1
  go_wp2_with fail
  refine (E.out _ (HT.out.later B2.out)).mono ?_
  rintro e w3 ⟨rfl, hb⟩
  have B3 : Hid (Below W.heap.size W w3) := Lib.hid (B2.out.trans (hb.mono (by omega)))
  have z3 : W.heap.size < w3.heap.size := by have := hb.size; omega
  have a3 := keep0 hb z2 a2
  clear hb a2
  go_wp2_with fail
  refine (F.out _ (HT.out.later B3.out)).mono ?_
  rintro e w4 ⟨rfl, rfl⟩
  go_wp2_with fail
  refine (FL.out _).mono ?_
  rintro e w4 ⟨rfl, ⟨n1, rfl⟩⟩
  go_wp2_with fail
  refine (PU.out _).mono ?_
  rintro e w4 ⟨rfl, ⟨n2, rfl⟩⟩
  go_wp2_with fail
  refine (D.out _ (HT.out.later (bdrew B3.out _))).mono ?_
  rintro e w4 ⟨rfl, hb⟩
  have B4 : Hid (Below W.heap.size W w4) := Lib.hid ((bdrew B3.out _).trans (hb.mono (by simp; omega)))
  have z4 : W.heap.size < w4.heap.size := by have := hb.size; simp at this; omega
  clear hb a3
  go_wp2_with fail
  go_ret
  exact ⟨by first | (simp; done) | (simp; omega), by repeat (first | exact B4.out.alloc (by omega) _ | refine bdrew ?_ _)⟩
set_option maxRecDepth 100000 in
set_option maxHeartbeats 4000000 in
theorem law3_5y (i : In) (b k : Nat) (hx : small i.imm) (W : World) (hT : Tabs W) (hv : vld i = true) (hb : b < 256) (hkb : b % 18 = k) (hf : fmt i.op = 5) (hok : decOk (turn (encW i) k) = true) (hlim : ((turn (encW i) k % 262144 : Nat) : Int) < 12) :
    Calls Tryd.prog 5 #[i.v, .int .u8 (b : Int)] W fun e w' => e = .returned (.bool true) ∧ Below W.heap.size W w' := by
  have lk : k < 18 := by omega
  obtain ⟨w, hw⟩ : ∃ w, encW i = w := ⟨_, rfl⟩
  have lw : w < 2 ^ 32 := by rw [← hw]; exact encW_lt hv
  obtain ⟨t, ht⟩ : ∃ t, turn w k = t := ⟨_, rfl⟩
  have lt : t < 2 ^ 32 := by rw [← ht]; exact turn_lt lw (by omega)
  obtain ⟨g, hg⟩ : ∃ g, fld w k 1 = g := ⟨_, rfl⟩
  have lg : g ≤ 1 := by rw [← hg, fld_one]; exact Bool.toNat_le _
  rw [hw, ht] at hok
  obtain ⟨r, hr⟩ : ∃ r, decR t = r := ⟨_, rfl⟩
  have M := Lib.hid (fun W => may_at i true W hx hv)
  have E := Lib.hid (fun W hT => encode_at i w true W hT (by unfold encR; rw [if_pos hv]; exact hw) hv)
  have F := Lib.hid (fun W hT => format_at i.op 5 W hT hf)
  have FL := Lib.hid (fun W => field_at w k 1 g k 1 rfl rfl W lw (by omega) (by omega) hg)
  have PU := Lib.hid (fun W => put_at w k 1 (1 - g) t k 1 rfl rfl W lw (by omega) (by omega) (by rw [← hg]; exact ht))
  have D := Lib.hid (fun W hT => decode_at t r true W hT lt hr hok)
  obtain ⟨x, hxx⟩ : ∃ x, t % 262144 = x := ⟨_, rfl⟩
  rw [hw, ht, hxx] at hlim
  have F2 := Lib.hid (fun W => field_at t 0 18 x 0 18 rfl rfl W lt (by omega) (by omega) (by rw [fld_zero]; exact hxx))
  have ek : (b : Int) % 18 = (k : Int) := by omega
  have eg : (1 : Int) - (g : Int) = ((1 - g : Nat) : Int) := by omega
  have egw : IntKind.u32.wrap (1 - (g : Int)) = ((1 - g : Nat) : Int) := by rw [IntKind.wrap_u32]; omega
  have lgi : (g : Int) ≤ 1 := by omega
  clear hv hx hf hok hkb hw ht hg hr hxx
  obtain ⟨i0, i1, i2, i3, i4⟩ := i
  obtain ⟨r0, r1, r2, r3, r4⟩ := r
  simp only [In.v] at M E D ⊢
  dsimp only at F
  have HT := Lib.hid hT
  clear hT
  go_enter Tryd.func5, Tryd.ntmps5
  go_wp2_with fail
  refine (awake_any _ (HT.out.later ((Below.refl _ W).alloc (Nat.le_refl _) _))).mono ?_
  rintro e w1 ⟨rfl, hb⟩
  have B1 : Hid (Below W.heap.size W w1) := Lib.hid (((Below.refl _ W).alloc (Nat.le_refl _) _).trans (hb.mono (by simp)))
  have z1 : W.heap.size < w1.heap.size := by have := hb.size; simp at this; omega
  have a1 := keep0 hb (by simp) (keepN W _ _)
  clear hb
  go_wp2_with fail
  refine (M.out _).mono ?_
  rintro e w2 ⟨rfl, hb⟩
  have B2 : Hid (Below W.heap.size W w2) := Lib.hid (B1.out.trans (hb.mono (by omega)))
  have z2 : W.heap.size < w2.heap.size := by have := hb.size; omega
  have a2 := keep0 hb z1 a1
  clear hb a1
  go_wp2_with fail
  refine (E.out _ (HT.out.later B2.out)).mono ?_
  rintro e w3 ⟨rfl, hb⟩
  have B3 : Hid (Below W.heap.size W w3) := Lib.hid (B2.out.trans (hb.mono (by omega)))
  have z3 : W.heap.size < w3.heap.size := by have := hb.size; omega
  have a3 := keep0 hb z2 a2
  clear hb a2
  go_wp2_with fail
  refine (F.out _ (HT.out.later B3.out)).mono ?_
  rintro e w4 ⟨rfl, rfl⟩
  go_wp2_with fail
  refine (FL.out _).mono ?_
  rintro e w4 ⟨rfl, ⟨n1, rfl⟩⟩
  go_wp2_with fail
  refine (PU.out _).mono ?_
  rintro e w4 ⟨rfl, ⟨n2, rfl⟩⟩
  go_wp2_with fail
  refine (D.out _ (HT.out.later (bdrew B3.out _))).mono ?_
  rintro e w4 ⟨rfl, hb⟩
  have B4 : Hid (Below W.heap.size W w4) := Lib.hid ((bdrew B3.out _).trans (hb.mono (by simp; omega)))
  have z4 : W.heap.size < w4.heap.size := by have := hb.size; simp at this; omega
  clear hb a3
  go_wp2_with fail
  refine (F2.out _).mono ?_
  rintro e w4 ⟨rfl, ⟨n3, rfl⟩⟩
  go_wp2_with fail
  go_ret
  exact ⟨by first | (simp; done) | (simp; omega), by repeat (first | exact B4.out.alloc (by omega) _ | refine bdrew ?_ _)⟩
set_option maxRecDepth 100000 in
set_option maxHeartbeats 4000000 in
theorem law3_5n (i : In) (b k : Nat) (hx : small i.imm) (W : World) (hT : Tabs W) (hv : vld i = true) (hb : b < 256) (hkb : b % 18 = k) (hf : fmt i.op = 5) (hok : decOk (turn (encW i) k) = false) (hlim : ¬ ((turn (encW i) k % 262144 : Nat) : Int) < 12) :
    Calls Tryd.prog 5 #[i.v, .int .u8 (b : Int)] W fun e w' => e = .returned (.bool true) ∧ Below W.heap.size W w' := by
  have lk : k < 18 := by omega
  obtain ⟨w, hw⟩ : ∃ w, encW i = w := ⟨_, rfl⟩
  have lw : w < 2 ^ 32 := by rw [← hw]; exact encW_lt hv
  obtain ⟨t, ht⟩ : ∃ t, turn w k = t := ⟨_, rfl⟩
  have lt : t < 2 ^ 32 := by rw [← ht]; exact turn_lt lw (by omega)
  obtain ⟨g, hg⟩ : ∃ g, fld w k 1 = g := ⟨_, rfl⟩
  have lg : g ≤ 1 := by rw [← hg, fld_one]; exact Bool.toNat_le _
  rw [hw, ht] at hok
  obtain ⟨r, hr⟩ : ∃ r, decR t = r := ⟨_, rfl⟩
  have M := Lib.hid (fun W => may_at i true W hx hv)
  have E := Lib.hid (fun W hT => encode_at i w true W hT (by unfold encR; rw [if_pos hv]; exact hw) hv)
  have F := Lib.hid (fun W hT => format_at i.op 5 W hT hf)
  have FL := Lib.hid (fun W => field_at w k 1 g k 1 rfl rfl W lw (by omega) (by omega) hg)
  have PU := Lib.hid (fun W => put_at w k 1 (1 - g) t k 1 rfl rfl W lw (by omega) (by omega) (by rw [← hg]; exact ht))
  have D := Lib.hid (fun W hT => decode_at t r false W hT lt hr hok)
  obtain ⟨x, hxx⟩ : ∃ x, t % 262144 = x := ⟨_, rfl⟩
  rw [hw, ht, hxx] at hlim
  have F2 := Lib.hid (fun W => field_at t 0 18 x 0 18 rfl rfl W lt (by omega) (by omega) (by rw [fld_zero]; exact hxx))
  have ek : (b : Int) % 18 = (k : Int) := by omega
  have eg : (1 : Int) - (g : Int) = ((1 - g : Nat) : Int) := by omega
  have egw : IntKind.u32.wrap (1 - (g : Int)) = ((1 - g : Nat) : Int) := by rw [IntKind.wrap_u32]; omega
  have lgi : (g : Int) ≤ 1 := by omega
  clear hv hx hf hok hkb hw ht hg hr hxx
  obtain ⟨i0, i1, i2, i3, i4⟩ := i
  obtain ⟨r0, r1, r2, r3, r4⟩ := r
  simp only [In.v] at M E D ⊢
  dsimp only at F
  have HT := Lib.hid hT
  clear hT
  go_enter Tryd.func5, Tryd.ntmps5
  go_wp2_with fail
  refine (awake_any _ (HT.out.later ((Below.refl _ W).alloc (Nat.le_refl _) _))).mono ?_
  rintro e w1 ⟨rfl, hb⟩
  have B1 : Hid (Below W.heap.size W w1) := Lib.hid (((Below.refl _ W).alloc (Nat.le_refl _) _).trans (hb.mono (by simp)))
  have z1 : W.heap.size < w1.heap.size := by have := hb.size; simp at this; omega
  have a1 := keep0 hb (by simp) (keepN W _ _)
  clear hb
  go_wp2_with fail
  refine (M.out _).mono ?_
  rintro e w2 ⟨rfl, hb⟩
  have B2 : Hid (Below W.heap.size W w2) := Lib.hid (B1.out.trans (hb.mono (by omega)))
  have z2 : W.heap.size < w2.heap.size := by have := hb.size; omega
  have a2 := keep0 hb z1 a1
  clear hb a1
  go_wp2_with fail
  refine (E.out _ (HT.out.later B2.out)).mono ?_
  rintro e w3 ⟨rfl, hb⟩
  have B3 : Hid (Below W.heap.size W w3) := Lib.hid (B2.out.trans (hb.mono (by omega)))
  have z3 : W.heap.size < w3.heap.size := by have := hb.size; omega
  have a3 := keep0 hb z2 a2
  clear hb a2
  go_wp2_with fail
  refine (F.out _ (HT.out.later B3.out)).mono ?_
  rintro e w4 ⟨rfl, rfl⟩
  go_wp2_with fail
  refine (FL.out _).mono ?_
  rintro e w4 ⟨rfl, ⟨n1, rfl⟩⟩
  go_wp2_with fail
  refine (PU.out _).mono ?_
  rintro e w4 ⟨rfl, ⟨n2, rfl⟩⟩
  go_wp2_with fail
  refine (D.out _ (HT.out.later (bdrew B3.out _))).mono ?_
  rintro e w4 ⟨rfl, hb⟩
  have B4 : Hid (Below W.heap.size W w4) := Lib.hid ((bdrew B3.out _).trans (hb.mono (by simp; omega)))
  have z4 : W.heap.size < w4.heap.size := by have := hb.size; simp at this; omega
  clear hb a3
  go_wp2_with fail
  refine (F2.out _).mono ?_
  rintro e w4 ⟨rfl, ⟨n3, rfl⟩⟩
  go_wp2_with fail
  go_ret
  exact ⟨by first | (simp; done) | (simp; omega), by repeat (first | exact B4.out.alloc (by omega) _ | refine bdrew ?_ _)⟩
set_option maxRecDepth 100000 in
set_option maxHeartbeats 4000000 in
theorem law3_6y (i : In) (b k : Nat) (hx : small i.imm) (W : World) (hT : Tabs W) (hv : vld i = true) (hb : b < 256) (hkb : b % 18 = k) (hf : fmt i.op = 6) (hok : decOk (turn (encW i) k) = true) (hlim : ((turn (encW i) k % 262144 : Nat) : Int) < 12) :
    Calls Tryd.prog 5 #[i.v, .int .u8 (b : Int)] W fun e w' => e = .returned (.bool true) ∧ Below W.heap.size W w' := by
  have lk : k < 18 := by omega
  obtain ⟨w, hw⟩ : ∃ w, encW i = w := ⟨_, rfl⟩
  have lw : w < 2 ^ 32 := by rw [← hw]; exact encW_lt hv
  obtain ⟨t, ht⟩ : ∃ t, turn w k = t := ⟨_, rfl⟩
  have lt : t < 2 ^ 32 := by rw [← ht]; exact turn_lt lw (by omega)
  obtain ⟨g, hg⟩ : ∃ g, fld w k 1 = g := ⟨_, rfl⟩
  have lg : g ≤ 1 := by rw [← hg, fld_one]; exact Bool.toNat_le _
  rw [hw, ht] at hok
  obtain ⟨r, hr⟩ : ∃ r, decR t = r := ⟨_, rfl⟩
  have M := Lib.hid (fun W => may_at i true W hx hv)
  have E := Lib.hid (fun W hT => encode_at i w true W hT (by unfold encR; rw [if_pos hv]; exact hw) hv)
  have F := Lib.hid (fun W hT => format_at i.op 6 W hT hf)
  have FL := Lib.hid (fun W => field_at w k 1 g k 1 rfl rfl W lw (by omega) (by omega) hg)
  have PU := Lib.hid (fun W => put_at w k 1 (1 - g) t k 1 rfl rfl W lw (by omega) (by omega) (by rw [← hg]; exact ht))
  have D := Lib.hid (fun W hT => decode_at t r true W hT lt hr hok)
  obtain ⟨x, hxx⟩ : ∃ x, t % 262144 = x := ⟨_, rfl⟩
  rw [hw, ht, hxx] at hlim
  have F2 := Lib.hid (fun W => field_at t 0 18 x 0 18 rfl rfl W lt (by omega) (by omega) (by rw [fld_zero]; exact hxx))
  have ek : (b : Int) % 18 = (k : Int) := by omega
  have eg : (1 : Int) - (g : Int) = ((1 - g : Nat) : Int) := by omega
  have egw : IntKind.u32.wrap (1 - (g : Int)) = ((1 - g : Nat) : Int) := by rw [IntKind.wrap_u32]; omega
  have lgi : (g : Int) ≤ 1 := by omega
  clear hv hx hf hok hkb hw ht hg hr hxx
  obtain ⟨i0, i1, i2, i3, i4⟩ := i
  obtain ⟨r0, r1, r2, r3, r4⟩ := r
  simp only [In.v] at M E D ⊢
  dsimp only at F
  have HT := Lib.hid hT
  clear hT
  go_enter Tryd.func5, Tryd.ntmps5
  go_wp2_with fail
  refine (awake_any _ (HT.out.later ((Below.refl _ W).alloc (Nat.le_refl _) _))).mono ?_
  rintro e w1 ⟨rfl, hb⟩
  have B1 : Hid (Below W.heap.size W w1) := Lib.hid (((Below.refl _ W).alloc (Nat.le_refl _) _).trans (hb.mono (by simp)))
  have z1 : W.heap.size < w1.heap.size := by have := hb.size; simp at this; omega
  have a1 := keep0 hb (by simp) (keepN W _ _)
  clear hb
  go_wp2_with fail
  refine (M.out _).mono ?_
  rintro e w2 ⟨rfl, hb⟩
  have B2 : Hid (Below W.heap.size W w2) := Lib.hid (B1.out.trans (hb.mono (by omega)))
  have z2 : W.heap.size < w2.heap.size := by have := hb.size; omega
  have a2 := keep0 hb z1 a1
  clear hb a1
  go_wp2_with fail
  refine (E.out _ (HT.out.later B2.out)).mono ?_
  rintro e w3 ⟨rfl, hb⟩
  have B3 : Hid (Below W.heap.size W w3) := Lib.hid (B2.out.trans (hb.mono (by omega)))
  have z3 : W.heap.size < w3.heap.size := by have := hb.size; omega
  have a3 := keep0 hb z2 a2
  clear hb a2
  go_wp2_with fail
  refine (F.out _ (HT.out.later B3.out)).mono ?_
  rintro e w4 ⟨rfl, rfl⟩
  go_wp2_with fail
  refine (FL.out _).mono ?_
  rintro e w4 ⟨rfl, ⟨n1, rfl⟩⟩
  go_wp2_with fail
  refine (PU.out _).mono ?_
  rintro e w4 ⟨rfl, ⟨n2, rfl⟩⟩
  go_wp2_with fail
  refine (D.out _ (HT.out.later (bdrew B3.out _))).mono ?_
  rintro e w4 ⟨rfl, hb⟩
  have B4 : Hid (Below W.heap.size W w4) := Lib.hid ((bdrew B3.out _).trans (hb.mono (by simp; omega)))
  have z4 : W.heap.size < w4.heap.size := by have := hb.size; simp at this; omega
  clear hb a3
  go_wp2_with fail
  refine (F2.out _).mono ?_
  rintro e w4 ⟨rfl, ⟨n3, rfl⟩⟩
  go_wp2_with fail
  go_ret
  exact ⟨by first | (simp; done) | (simp; omega), by repeat (first | exact B4.out.alloc (by omega) _ | refine bdrew ?_ _)⟩
set_option maxRecDepth 100000 in
set_option maxHeartbeats 4000000 in
theorem law3_6n (i : In) (b k : Nat) (hx : small i.imm) (W : World) (hT : Tabs W) (hv : vld i = true) (hb : b < 256) (hkb : b % 18 = k) (hf : fmt i.op = 6) (hok : decOk (turn (encW i) k) = false) (hlim : ¬ ((turn (encW i) k % 262144 : Nat) : Int) < 12) :
    Calls Tryd.prog 5 #[i.v, .int .u8 (b : Int)] W fun e w' => e = .returned (.bool true) ∧ Below W.heap.size W w' := by
  have lk : k < 18 := by omega
  obtain ⟨w, hw⟩ : ∃ w, encW i = w := ⟨_, rfl⟩
  have lw : w < 2 ^ 32 := by rw [← hw]; exact encW_lt hv
  obtain ⟨t, ht⟩ : ∃ t, turn w k = t := ⟨_, rfl⟩
  have lt : t < 2 ^ 32 := by rw [← ht]; exact turn_lt lw (by omega)
  obtain ⟨g, hg⟩ : ∃ g, fld w k 1 = g := ⟨_, rfl⟩
  have lg : g ≤ 1 := by rw [← hg, fld_one]; exact Bool.toNat_le _
  rw [hw, ht] at hok
  obtain ⟨r, hr⟩ : ∃ r, decR t = r := ⟨_, rfl⟩
  have M := Lib.hid (fun W => may_at i true W hx hv)
  have E := Lib.hid (fun W hT => encode_at i w true W hT (by unfold encR; rw [if_pos hv]; exact hw) hv)
  have F := Lib.hid (fun W hT => format_at i.op 6 W hT hf)
  have FL := Lib.hid (fun W => field_at w k 1 g k 1 rfl rfl W lw (by omega) (by omega) hg)
  have PU := Lib.hid (fun W => put_at w k 1 (1 - g) t k 1 rfl rfl W lw (by omega) (by omega) (by rw [← hg]; exact ht))
  have D := Lib.hid (fun W hT => decode_at t r false W hT lt hr hok)
  obtain ⟨x, hxx⟩ : ∃ x, t % 262144 = x := ⟨_, rfl⟩
  rw [hw, ht, hxx] at hlim
  have F2 := Lib.hid (fun W => field_at t 0 18 x 0 18 rfl rfl W lt (by omega) (by omega) (by rw [fld_zero]; exact hxx))
  have ek : (b : Int) % 18 = (k : Int) := by omega
  have eg : (1 : Int) - (g : Int) = ((1 - g : Nat) : Int) := by omega
  have egw : IntKind.u32.wrap (1 - (g : Int)) = ((1 - g : Nat) : Int) := by rw [IntKind.wrap_u32]; omega
  have lgi : (g : Int) ≤ 1 := by omega
  clear hv hx hf hok hkb hw ht hg hr hxx
  obtain ⟨i0, i1, i2, i3, i4⟩ := i
  obtain ⟨r0, r1, r2, r3, r4⟩ := r
  simp only [In.v] at M E D ⊢
  dsimp only at F
  have HT := Lib.hid hT
  clear hT
  go_enter Tryd.func5, Tryd.ntmps5
  go_wp2_with fail
  refine (awake_any _ (HT.out.later ((Below.refl _ W).alloc (Nat.le_refl _) _))).mono ?_
  rintro e w1 ⟨rfl, hb⟩
  have B1 : Hid (Below W.heap.size W w1) := Lib.hid (((Below.refl _ W).alloc (Nat.le_refl _) _).trans (hb.mono (by simp)))
  have z1 : W.heap.size < w1.heap.size := by have := hb.size; simp at this; omega
  have a1 := keep0 hb (by simp) (keepN W _ _)
  clear hb
  go_wp2_with fail
  refine (M.out _).mono ?_
  rintro e w2 ⟨rfl, hb⟩
  have B2 : Hid (Below W.heap.size W w2) := Lib.hid (B1.out.trans (hb.mono (by omega)))
  have z2 : W.heap.size < w2.heap.size := by have := hb.size; omega
  have a2 := keep0 hb z1 a1
  clear hb a1
  go_wp2_with fail
  refine (E.out _ (HT.out.later B2.out)).mono ?_
  rintro e w3 ⟨rfl, hb⟩
  have B3 : Hid (Below W.heap.size W w3) := Lib.hid (B2.out.trans (hb.mono (by omega)))
  have z3 : W.heap.size < w3.heap.size := by have := hb.size; omega
  have a3 := keep0 hb z2 a2
  clear hb a2
  go_wp2_with fail
  refine (F.out _ (HT.out.later B3.out)).mono ?_
  rintro e w4 ⟨rfl, rfl⟩
  go_wp2_with fail
  refine (FL.out _).mono ?_
  rintro e w4 ⟨rfl, ⟨n1, rfl⟩⟩
  go_wp2_with fail
  refine (PU.out _).mono ?_
  rintro e w4 ⟨rfl, ⟨n2, rfl⟩⟩
  go_wp2_with fail
  refine (D.out _ (HT.out.later (bdrew B3.out _))).mono ?_
  rintro e w4 ⟨rfl, hb⟩
  have B4 : Hid (Below W.heap.size W w4) := Lib.hid ((bdrew B3.out _).trans (hb.mono (by simp; omega)))
  have z4 : W.heap.size < w4.heap.size := by have := hb.size; simp at this; omega
  clear hb a3
  go_wp2_with fail
  refine (F2.out _).mono ?_
  rintro e w4 ⟨rfl, ⟨n3, rfl⟩⟩
  go_wp2_with fail
  go_ret
  exact ⟨by first | (simp; done) | (simp; omega), by repeat (first | exact B4.out.alloc (by omega) _ | refine bdrew ?_ _)⟩
theorem law3 (i : In) (b : Nat) (hx : small i.imm) (hb : b < 256) (W : World) (hT : Tabs W) :
    Calls Tryd.prog 5 #[i.v, .int .u8 (b : Int)] W fun e w' => e = .returned (.bool true) ∧ Below W.heap.size W w' := by
  cases hv : vld i with
  | false => exact law3_no i b hx W hT hv
  | true =>
    have hd := dec_turn hv (k := b % 18) (by omega)
    rcases fmt_cases i.op with e | e | e | e | e | e | e | e
    · exact absurd e (vld_parts hv).1
    · rw [if_pos e] at hd
      by_cases h4 : b % 18 < 4
      · rw [decide_eq_true h4] at hd; exact law3_1y i b _ hx W hT hv hb rfl e hd (by omega)
      · rw [decide_eq_false h4] at hd; exact law3_1n i b _ hx W hT hv hb rfl e hd (by omega)
    · rw [e, if_neg (by decide), if_pos (by decide)] at hd; exact law3_2 i b _ hx W hT hv hb rfl e hd
    · rw [e, if_neg (by decide), if_pos (by decide)] at hd; exact law3_3 i b _ hx W hT hv hb rfl e hd
    · rw [e, if_neg (by decide), if_neg (by decide), if_neg (by decide)] at hd; exact law3_4 i b _ hx W hT hv hb rfl e hd
    · rw [e, if_neg (by decide), if_neg (by decide), if_pos (by decide)] at hd
      by_cases h4 : turn (encW i) (b % 18) % 262144 < 12
      · rw [decide_eq_true h4] at hd; exact law3_5y i b _ hx W hT hv hb rfl e hd (by omega)
      · rw [decide_eq_false h4] at hd; exact law3_5n i b _ hx W hT hv hb rfl e hd (by omega)
    · rw [e, if_neg (by decide), if_neg (by decide), if_pos (by decide)] at hd
      by_cases h4 : turn (encW i) (b % 18) % 262144 < 12
      · rw [decide_eq_true h4] at hd; exact law3_6y i b _ hx W hT hv hb rfl e hd (by omega)
      · rw [decide_eq_false h4] at hd; exact law3_6n i b _ hx W hT hv hb rfl e hd (by omega)
    · rw [e, if_neg (by decide), if_neg (by decide), if_neg (by decide)] at hd; exact law3_7 i b _ hx W hT hv hb rfl e hd
end Go.Proofs.YtpajnomngjllpaaDoor.Isa
