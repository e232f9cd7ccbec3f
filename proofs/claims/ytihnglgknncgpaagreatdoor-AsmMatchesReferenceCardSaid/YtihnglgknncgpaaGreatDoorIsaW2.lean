/- isa.Encode, walked. -/
import Derived.Test.YtihnglgknncgpaaGreatDoorIsaW1
namespace Go.Proofs.YtihnglgknncgpaaGreatDoor.Isa
open Go Go.RowKit Go.Proofs.YtihnglgknncgpaaGreatDoor.PAsmEveryWordHasOneLine Go.Proofs.YtihnglgknncgpaaGreatDoorW.PrintWords Go.Proofs.YtihnglgknncgpaaGreatDoorW.PrintLast Go.Proofs.YtihnglgknncgpaaGreatDoorW.PrintMore Go.Proofs.YtihnglgknncgpaaGreatDoor.Bm
set_option linter.unusedVariables false
set_option linter.unusedSimpArgs false
theorem encode_no (i : In) (w : World) (hT : Tabs w) (hv : vld i = false) :
    Calls Tryz.prog 51 #[i.v] w fun e w' => e = .returned (.tuple #[.int .u32 0, .bool false]) ∧ Below w.heap.size w w' := by
  have HV := Lib.hid hv; clear hv
  have HT := Lib.hid hT; clear hT
  have hval := fun w hT => valid_at i false w hT HV.out
  obtain ⟨op, rd, ra, rb, imm⟩ := i
  have Hval := Lib.hid hval; clear hval
  unfold In.v at Hval ⊢
  dsimp only at Hval ⊢
  go_enter Tryz.func51, Tryz.ntmps51
  go_wp2_with fail
  refine (Hval.out _ (HT.out.later ((Below.refl _ _).alloc (Nat.le_refl _) _))).mono ?_
  rintro e w' ⟨rfl, hb⟩
  go_wp2_with fail
  go_ret2
  exact ⟨rfl, ((Below.refl _ w).alloc (Nat.le_refl _) _).trans (hb.mono (by simp))⟩
set_option maxRecDepth 100000 in
set_option maxHeartbeats 1000000 in
theorem encode_yes (i : In) (w : World) (hT : Tabs w) (hv : vld i = true) :
    Calls Tryz.prog 51 #[i.v] w fun e w' => e = .returned (.tuple #[.int .u32 (encW i : Int), .bool true]) ∧ Below w.heap.size w w' := by
  have hb := vld_bounds hv
  have he := enc_eq hv
  have HV := Lib.hid hv; clear hv
  have HT := Lib.hid hT; clear hT
  have hval := fun w hT => valid_at i true w hT HV.out
  obtain ⟨r, hr⟩ : ∃ r, encW i = r := ⟨_, rfl⟩
  rw [hr] at he ⊢
  clear hr HV
  obtain ⟨op, rd, ra, rb, imm⟩ := i
  dsimp only at he hb
  obtain ⟨o, rfl⟩ := Int.eq_ofNat_of_zero_le (show 0 ≤ op by omega)
  obtain ⟨d, rfl⟩ := Int.eq_ofNat_of_zero_le (show 0 ≤ rd by omega)
  obtain ⟨a, rfl⟩ := Int.eq_ofNat_of_zero_le (show 0 ≤ ra by omega)
  obtain ⟨b, rfl⟩ := Int.eq_ofNat_of_zero_le (show 0 ≤ rb by omega)
  simp only [Int.toNat_natCast] at he
  obtain ⟨h0, h1, h2, h3, h4, h5, h6, h7⟩ := hb
  have ho : o < 26 := by omega
  have hd : d < 16 := by omega
  have ha : a < 16 := by omega
  have hbb : b < 16 := by omega
  obtain ⟨x1, hx1⟩ : ∃ x1, wd imm % 2 ^ 18 = x1 := ⟨_, rfl⟩
  have lx1 : x1 < 262144 := by rw [← hx1]; exact Nat.mod_lt _ (by decide)
  rw [hx1] at he
  obtain ⟨x, hx⟩ : ∃ x, (x1 ||| b) = x := ⟨_, rfl⟩
  have lx : x < 2 ^ 18 := by rw [← hx]; exact Nat.or_lt_two_pow (by omega) (by omega)
  have hor : Go.bits .or .u32 (x1 : Int) (b : Int) = (x : Int) := by rw [← hx]; exact or_nat32 _ _ (by omega) (by omega)
  rw [hx] at he
  obtain ⟨y, hy⟩ : ∃ y, ins x 26 6 o = y := ⟨_, rfl⟩
  have ly : y < 2 ^ 32 := by rw [← hy]; exact ins_lt (by omega) (by omega)
  rw [hy] at he
  obtain ⟨z, hz⟩ : ∃ z, ins y 22 4 d = z := ⟨_, rfl⟩
  have lz : z < 2 ^ 32 := by rw [← hz]; exact ins_lt ly (by omega)
  rw [hz] at he
  have C1 := Lib.hid (fun w => lowbits_at imm x1 w hx1)
  have C2 := Lib.hid (fun w => insert_at x 26 6 o y 26 6 rfl rfl w (by omega) (by omega) (by omega) hy)
  have C3 := Lib.hid (fun w => insert_at y 22 4 d z 22 4 rfl rfl w ly (by omega) (by omega) hz)
  have C4 := Lib.hid (fun w => insert_at z 18 4 a r 18 4 rfl rfl w lz (by omega) (by omega) he)
  have Hval := Lib.hid hval; clear hval
  have w1 : IntKind.u32.wrap (o : Int) = (o : Int) := by rw [IntKind.wrap_u32]; omega
  have w2 : IntKind.u32.wrap (d : Int) = (d : Int) := by rw [IntKind.wrap_u32]; omega
  have w3 : IntKind.u32.wrap (a : Int) = (a : Int) := by rw [IntKind.wrap_u32]; omega
  have w4 : IntKind.u32.wrap (b : Int) = (b : Int) := by rw [IntKind.wrap_u32]; omega
  clear hx1 hx hy hz he
  unfold In.v at Hval ⊢
  dsimp only at Hval ⊢
  go_enter Tryz.func51, Tryz.ntmps51
  go_wp2_with fail
  refine (Hval.out _ (HT.out.later ((Below.refl _ _).alloc (Nat.le_refl _) _))).mono ?_
  rintro e w' ⟨rfl, hb⟩
  have hc := fun j => hb.cell (p := ⟨w.heap.size, j, none⟩) (by simp)
  have HB := Lib.hid hb; clear hb
  go_wp2_with fail
  go_quiet (first | (go_at_call 74; exact Calls.quiet_of (C1.out _)) | (go_at_call 73; exact Calls.quiet_of (C2.out _)))
  go_wp2_with fail
  go_quiet (first | (go_at_call 73; (with_reducible refine (C3.out _).mono ?_); rintro e w' ⟨rfl, ⟨nd, rfl⟩⟩; first | exact ⟨rfl, _, World.drewN_drewN _ _ _⟩ | exact ⟨rfl, _, Eq.trans (World.drewN_drewN _ _ _) (congrArg (World.drewN _) (Nat.add_assoc _ _ _))⟩) | (go_at_call 73; (with_reducible refine (C4.out _).mono ?_); rintro e w' ⟨rfl, ⟨nd, rfl⟩⟩; first | exact ⟨rfl, _, World.drewN_drewN _ _ _⟩ | exact ⟨rfl, _, Eq.trans (World.drewN_drewN _ _ _) (congrArg (World.drewN _) (Nat.add_assoc _ _ _))⟩))
  go_wp2_with fail
  go_ret2
  exact ⟨rfl, bdrew (bdrew (((Below.refl _ w).alloc (Nat.le_refl _) _).trans (HB.out.mono (by simp))) _) _⟩
def encR (i : In) : Nat := if vld i = true then encW i else 0
theorem encR_lt (i : In) : encR i < 2 ^ 32 := by
  unfold encR; split
  · rename_i h; exact encW_lt h
  · decide
theorem encode_any (i : In) (w : World) (hT : Tabs w) :
    Calls Tryz.prog 51 #[i.v] w fun e w' => e = .returned (.tuple #[.int .u32 (encR i : Int), .bool (vld i)]) ∧ Below w.heap.size w w' := by
  unfold encR
  cases h : vld i with
  | true => rw [if_pos rfl]; exact encode_yes i w hT h
  | false => rw [if_neg (by decide)]; exact encode_no i w hT h
theorem encode_at (i : In) (r : Nat) (b : Bool) (w : World) (hT : Tabs w) (hr : encR i = r) (hb : vld i = b) :
    Calls Tryz.prog 51 #[i.v] w fun e w' => e = .returned (.tuple #[.int .u32 (r : Int), .bool b]) ∧ Below w.heap.size w w' := by
  subst hr hb; exact encode_any i w hT
end Go.Proofs.YtihnglgknncgpaaGreatDoor.Isa
