/- isa.FormatOf and isa.Valid, walked. -/
import Derived.Test.YtihnglgknncgpaaGreatDoorPlain
import Derived.Deep.RegionWith
import Derived.Lib.Hide
import Derived.Outline
namespace Go.Proofs.YtihnglgknncgpaaGreatDoor.Isa
open Go Go.RowKit Go.Proofs.YtihnglgknncgpaaGreatDoor.PAsmEveryWordHasOneLine Go.Proofs.YtihnglgknncgpaaGreatDoorW.PrintWords Go.Proofs.YtihnglgknncgpaaGreatDoorW.PrintLast Go.Proofs.YtihnglgknncgpaaGreatDoorW.PrintMore Go.Proofs.YtihnglgknncgpaaGreatDoor.Bm
set_option linter.unusedVariables false
set_option linter.unusedSimpArgs false
theorem bdrew {B : Nat} {a w : World} (h : Below B a w) (n : Nat) : Below B a (w.drewN n) := ⟨h.os, h.tape, h.output, h.size, h.block⟩
structure Tabs (W : World) : Prop where
  forms : ∀ i, i < 26 → W.cell? ⟨2, i, none⟩ = some (.int .i64 (fml.getD i 0))
  parts : ∀ i, i < 40 → W.cell? ⟨1, i, none⟩ = some (.bool (ptl.getD i false))
  size : 3 ≤ W.heap.size
theorem Tabs.below {W W' : World} {B : Nat} (h : Tabs W) (hb : Below B W W') (hB : 3 ≤ B) : Tabs W' :=
  ⟨fun i hi => (hb.cell (p := ⟨2, i, none⟩) (by show 2 < B; omega)).trans (h.forms i hi), fun i hi => (hb.cell (p := ⟨1, i, none⟩) (by show 1 < B; omega)).trans (h.parts i hi), Nat.le_trans h.size hb.size⟩
theorem Tabs.later {W W' : World} (h : Tabs W) (hb : Below W.heap.size W W') : Tabs W' := h.below hb h.size
theorem Tabs.drewN {W : World} (h : Tabs W) (n : Nat) : Tabs (W.drewN n) := ⟨h.forms, h.parts, h.size⟩
theorem format_in (i : Nat) (v : Int) (w : World) (hi : i < 26) (hc : w.cell? ⟨2, i, none⟩ = some (.int .i64 v)) :
    Calls Tryz.prog 24 #[.int .i64 (i : Int)] w fun e w' => e = .returned (.int .i64 v) ∧ w = w' := by
  go_enter Tryz.func24, Tryz.ntmps24
  go_wp2
  go_ret
  exact ⟨rfl, rfl⟩
theorem format_out (op : Int) (w : World) (h : op < 0 ∨ 26 ≤ op) :
    Calls Tryz.prog 24 #[.int .i64 op] w fun e w' => e = .returned (.int .i64 0) ∧ w = w' := by
  rcases h with h | h
  · go_enter Tryz.func24, Tryz.ntmps24
    go_wp2
    go_ret
    exact ⟨rfl, rfl⟩
  · have h1 : ¬ op < 0 := by omega
    go_enter Tryz.func24, Tryz.ntmps24
    go_wp2
    go_ret
    exact ⟨rfl, rfl⟩
theorem format_any (op : Int) (w : World) (hT : Tabs w) :
    Calls Tryz.prog 24 #[.int .i64 op] w fun e w' => e = .returned (.int .i64 (fmt op)) ∧ w = w' := by
  by_cases h : 0 ≤ op ∧ op < 26
  · obtain ⟨i, rfl⟩ := Int.eq_ofNat_of_zero_le h.1
    have hc := hT.forms i (by omega)
    have e : fmt (i : Int) = fml.getD i 0 := by unfold fmt; rw [if_pos h, Int.toNat_natCast]
    rw [e]
    exact format_in i _ w (by omega) hc
  · have e : fmt op = 0 := by unfold fmt; rw [if_neg h]
    rw [e]
    exact format_out op w (by omega)
theorem format_at (op f : Int) (w : World) (hT : Tabs w) (hf : fmt op = f) :
    Calls Tryz.prog 24 #[.int .i64 op] w fun e w' => e = .returned (.int .i64 f) ∧ w = w' := by
  subst hf; exact format_any op w hT
theorem fits_any (x : Int) (w : World) : Calls Tryz.prog 46 #[.int .i32 x, .int .i64 18] w fun e w' => e = .returned (.bool (fits x 18)) ∧ ∃ n, w' = w.drewN n :=
  (bits_FitsSigned.calls _ _ _ _ (i_fits x 18 (by omega) (by omega))).mono fun _ _ ⟨he, hd⟩ => ⟨he, hd.out⟩
theorem register_any (n : Int) (b : Bool) (w : World) : Calls Tryz.prog 47 #[.int .i64 n, .bool b] w fun e w' => e = .returned (.bool (rg n b)) ∧ ∃ n, w' = w.drewN n :=
  (isa_register.calls _ _ _ _ (i_register n b)).mono fun _ _ ⟨he, hd⟩ => ⟨he, hd.out⟩
theorem hasF_at (f : Int) (j : Nat) (b : Bool) (h : ptl.getD (5 * f.toNat + j) false = b) : hasF f j = b := h
theorem vld_1 {op rd ra rb imm : Int} (hf : fmt op = 1) : vld ⟨op, rd, ra, rb, imm⟩ = ((imm == 0) && (rg rd true && (rg ra true && rg rb true))) := by
  unfold vld numOk
  dsimp only
  rw [hf, show hasF 1 0 = true from rfl, show hasF 1 1 = true from rfl, show hasF 1 2 = true from rfl, show hasF 1 3 = false from rfl, show hasF 1 4 = false from rfl]
  simp
set_option maxRecDepth 100000 in
set_option maxHeartbeats 1000000 in
theorem valid_1 (i : In) (w : World) (hT : Tabs w) (hf : fmt i.op = 1) :
    Calls Tryz.prog 22 #[i.v] w fun e w' => e = .returned (.bool (vld i)) ∧ Below w.heap.size w w' := by
  obtain ⟨op, rd, ra, rb, imm⟩ := i
  have p0 := hT.parts 5 (by omega)
  have p1 := hT.parts 6 (by omega)
  have p2 := hT.parts 7 (by omega)
  have p3 := hT.parts 8 (by omega)
  have p4 := hT.parts 9 (by omega)
  simp only [ptl, List.getD_cons_succ, List.getD_cons_zero] at p0 p1 p2 p3 p4
  unfold In.v
  dsimp only at hf ⊢
  rw [vld_1 hf]
  have hsz0 : 1 < w.heap.size := Nat.lt_of_lt_of_le (by decide) hT.size
  have hsz00 : 0 < w.heap.size := Nat.lt_trans (by decide) hsz0
  have HF := Lib.hid hf; clear hf
  have HT := Lib.hid hT; clear hT
  go_enter Tryz.func22, Tryz.ntmps22
  go_wp2_with fail
  refine (format_at op 1 _ (HT.out.later ((Below.refl _ _).alloc (Nat.le_refl _) _)) HF.out).mono ?_
  rintro e w' ⟨rfl, rfl⟩
  go_wp2_with (first | (go_at_call 46; refine (fits_any _ _).mono ?_; rintro e w' ⟨rfl, ⟨nq, rfl⟩⟩) | (go_at_call 47; refine (register_any _ _ _).mono ?_; rintro e w' ⟨rfl, ⟨nq, rfl⟩⟩))
  all_goals go_ret
  all_goals exact ⟨by first | (simp [*]; done) | (simp [*]; intros; omega), by repeat (first | exact Below.refl _ _ | refine bdrew ?_ _ | refine Below.alloc ?_ (by simp) _)⟩
theorem vld_2 {op rd ra rb imm : Int} (hf : fmt op = 2) : vld ⟨op, rd, ra, rb, imm⟩ = ((imm == 0 || fits imm 18) && (rg rd true && (rg ra true && rg rb false))) := by
  unfold vld numOk
  dsimp only
  rw [hf, show hasF 2 0 = true from rfl, show hasF 2 1 = true from rfl, show hasF 2 2 = false from rfl, show hasF 2 3 = true from rfl, show hasF 2 4 = false from rfl]
  simp
set_option maxRecDepth 100000 in
set_option maxHeartbeats 1000000 in
theorem valid_2 (i : In) (w : World) (hT : Tabs w) (hf : fmt i.op = 2) :
    Calls Tryz.prog 22 #[i.v] w fun e w' => e = .returned (.bool (vld i)) ∧ Below w.heap.size w w' := by
  obtain ⟨op, rd, ra, rb, imm⟩ := i
  have p0 := hT.parts 10 (by omega)
  have p1 := hT.parts 11 (by omega)
  have p2 := hT.parts 12 (by omega)
  have p3 := hT.parts 13 (by omega)
  have p4 := hT.parts 14 (by omega)
  simp only [ptl, List.getD_cons_succ, List.getD_cons_zero] at p0 p1 p2 p3 p4
  unfold In.v
  dsimp only at hf ⊢
  rw [vld_2 hf]
  have hsz0 : 1 < w.heap.size := Nat.lt_of_lt_of_le (by decide) hT.size
  have hsz00 : 0 < w.heap.size := Nat.lt_trans (by decide) hsz0
  have HF := Lib.hid hf; clear hf
  have HT := Lib.hid hT; clear hT
  go_enter Tryz.func22, Tryz.ntmps22
  go_wp2_with fail
  refine (format_at op 2 _ (HT.out.later ((Below.refl _ _).alloc (Nat.le_refl _) _)) HF.out).mono ?_
  rintro e w' ⟨rfl, rfl⟩
  go_wp2_with (first | (go_at_call 46; refine (fits_any _ _).mono ?_; rintro e w' ⟨rfl, ⟨nq, rfl⟩⟩) | (go_at_call 47; refine (register_any _ _ _).mono ?_; rintro e w' ⟨rfl, ⟨nq, rfl⟩⟩))
  all_goals go_ret
  all_goals exact ⟨by first | (simp [*]; done) | (simp [*]; intros; omega), by repeat (first | exact Below.refl _ _ | refine bdrew ?_ _ | refine Below.alloc ?_ (by simp) _)⟩
theorem vld_3 {op rd ra rb imm : Int} (hf : fmt op = 3) : vld ⟨op, rd, ra, rb, imm⟩ = ((imm == 0 || fits imm 18) && (rg rd true && (rg ra false && rg rb false))) := by
  unfold vld numOk
  dsimp only
  rw [hf, show hasF 3 0 = true from rfl, show hasF 3 1 = false from rfl, show hasF 3 2 = false from rfl, show hasF 3 3 = true from rfl, show hasF 3 4 = false from rfl]
  simp
set_option maxRecDepth 100000 in
set_option maxHeartbeats 1000000 in
theorem valid_3 (i : In) (w : World) (hT : Tabs w) (hf : fmt i.op = 3) :
    Calls Tryz.prog 22 #[i.v] w fun e w' => e = .returned (.bool (vld i)) ∧ Below w.heap.size w w' := by
  obtain ⟨op, rd, ra, rb, imm⟩ := i
  have p0 := hT.parts 15 (by omega)
  have p1 := hT.parts 16 (by omega)
  have p2 := hT.parts 17 (by omega)
  have p3 := hT.parts 18 (by omega)
  have p4 := hT.parts 19 (by omega)
  simp only [ptl, List.getD_cons_succ, List.getD_cons_zero] at p0 p1 p2 p3 p4
  unfold In.v
  dsimp only at hf ⊢
  rw [vld_3 hf]
  have hsz0 : 1 < w.heap.size := Nat.lt_of_lt_of_le (by decide) hT.size
  have hsz00 : 0 < w.heap.size := Nat.lt_trans (by decide) hsz0
  have HF := Lib.hid hf; clear hf
  have HT := Lib.hid hT; clear hT
  go_enter Tryz.func22, Tryz.ntmps22
  go_wp2_with fail
  refine (format_at op 3 _ (HT.out.later ((Below.refl _ _).alloc (Nat.le_refl _) _)) HF.out).mono ?_
  rintro e w' ⟨rfl, rfl⟩
  go_wp2_with (first | (go_at_call 46; refine (fits_any _ _).mono ?_; rintro e w' ⟨rfl, ⟨nq, rfl⟩⟩) | (go_at_call 47; refine (register_any _ _ _).mono ?_; rintro e w' ⟨rfl, ⟨nq, rfl⟩⟩))
  all_goals go_ret
  all_goals exact ⟨by first | (simp [*]; done) | (simp [*]; intros; omega), by repeat (first | exact Below.refl _ _ | refine bdrew ?_ _ | refine Below.alloc ?_ (by simp) _)⟩
theorem vld_4 {op rd ra rb imm : Int} (hf : fmt op = 4) : vld ⟨op, rd, ra, rb, imm⟩ = ((imm == 0) && (rg rd false && (rg ra false && rg rb false))) := by
  unfold vld numOk
  dsimp only
  rw [hf, show hasF 4 0 = false from rfl, show hasF 4 1 = false from rfl, show hasF 4 2 = false from rfl, show hasF 4 3 = false from rfl, show hasF 4 4 = false from rfl]
  simp
set_option maxRecDepth 100000 in
set_option maxHeartbeats 1000000 in
theorem valid_4 (i : In) (w : World) (hT : Tabs w) (hf : fmt i.op = 4) :
    Calls Tryz.prog 22 #[i.v] w fun e w' => e = .returned (.bool (vld i)) ∧ Below w.heap.size w w' := by
  obtain ⟨op, rd, ra, rb, imm⟩ := i
  have p0 := hT.parts 20 (by omega)
  have p1 := hT.parts 21 (by omega)
  have p2 := hT.parts 22 (by omega)
  have p3 := hT.parts 23 (by omega)
  have p4 := hT.parts 24 (by omega)
  simp only [ptl, List.getD_cons_succ, List.getD_cons_zero] at p0 p1 p2 p3 p4
  unfold In.v
  dsimp only at hf ⊢
  rw [vld_4 hf]
  have hsz0 : 1 < w.heap.size := Nat.lt_of_lt_of_le (by decide) hT.size
  have hsz00 : 0 < w.heap.size := Nat.lt_trans (by decide) hsz0
  have HF := Lib.hid hf; clear hf
  have HT := Lib.hid hT; clear hT
  go_enter Tryz.func22, Tryz.ntmps22
  go_wp2_with fail
  refine (format_at op 4 _ (HT.out.later ((Below.refl _ _).alloc (Nat.le_refl _) _)) HF.out).mono ?_
  rintro e w' ⟨rfl, rfl⟩
  go_wp2_with (first | (go_at_call 46; refine (fits_any _ _).mono ?_; rintro e w' ⟨rfl, ⟨nq, rfl⟩⟩) | (go_at_call 47; refine (register_any _ _ _).mono ?_; rintro e w' ⟨rfl, ⟨nq, rfl⟩⟩))
  all_goals go_ret
  all_goals exact ⟨by first | (simp [*]; done) | (simp [*]; intros; omega), by repeat (first | exact Below.refl _ _ | refine bdrew ?_ _ | refine Below.alloc ?_ (by simp) _)⟩
theorem vld_5 {op rd ra rb imm : Int} (hf : fmt op = 5) : vld ⟨op, rd, ra, rb, imm⟩ = ((imm == 0 || (decide (0 < imm) && decide (imm < 12))) && (rg rd true && (rg ra false && rg rb false))) := by
  unfold vld numOk
  dsimp only
  rw [hf, show hasF 5 0 = true from rfl, show hasF 5 1 = false from rfl, show hasF 5 2 = false from rfl, show hasF 5 3 = false from rfl, show hasF 5 4 = true from rfl]
  simp
set_option maxRecDepth 100000 in
set_option maxHeartbeats 1000000 in
theorem valid_5 (i : In) (w : World) (hT : Tabs w) (hf : fmt i.op = 5) :
    Calls Tryz.prog 22 #[i.v] w fun e w' => e = .returned (.bool (vld i)) ∧ Below w.heap.size w w' := by
  obtain ⟨op, rd, ra, rb, imm⟩ := i
  have p0 := hT.parts 25 (by omega)
  have p1 := hT.parts 26 (by omega)
  have p2 := hT.parts 27 (by omega)
  have p3 := hT.parts 28 (by omega)
  have p4 := hT.parts 29 (by omega)
  simp only [ptl, List.getD_cons_succ, List.getD_cons_zero] at p0 p1 p2 p3 p4
  unfold In.v
  dsimp only at hf ⊢
  rw [vld_5 hf]
  have hsz0 : 1 < w.heap.size := Nat.lt_of_lt_of_le (by decide) hT.size
  have hsz00 : 0 < w.heap.size := Nat.lt_trans (by decide) hsz0
  have HF := Lib.hid hf; clear hf
  have HT := Lib.hid hT; clear hT
  go_enter Tryz.func22, Tryz.ntmps22
  go_wp2_with fail
  refine (format_at op 5 _ (HT.out.later ((Below.refl _ _).alloc (Nat.le_refl _) _)) HF.out).mono ?_
  rintro e w' ⟨rfl, rfl⟩
  go_wp2_with (first | (go_at_call 46; refine (fits_any _ _).mono ?_; rintro e w' ⟨rfl, ⟨nq, rfl⟩⟩) | (go_at_call 47; refine (register_any _ _ _).mono ?_; rintro e w' ⟨rfl, ⟨nq, rfl⟩⟩))
  all_goals go_ret
  all_goals exact ⟨by first | (simp [*]; done) | (simp [*]; intros; omega), by repeat (first | exact Below.refl _ _ | refine bdrew ?_ _ | refine Below.alloc ?_ (by simp) _)⟩
theorem vld_6 {op rd ra rb imm : Int} (hf : fmt op = 6) : vld ⟨op, rd, ra, rb, imm⟩ = ((imm == 0 || (decide (0 < imm) && decide (imm < 12))) && (rg rd false && (rg ra true && rg rb false))) := by
  unfold vld numOk
  dsimp only
  rw [hf, show hasF 6 0 = false from rfl, show hasF 6 1 = true from rfl, show hasF 6 2 = false from rfl, show hasF 6 3 = false from rfl, show hasF 6 4 = true from rfl]
  simp
set_option maxRecDepth 100000 in
set_option maxHeartbeats 1000000 in
theorem valid_6 (i : In) (w : World) (hT : Tabs w) (hf : fmt i.op = 6) :
    Calls Tryz.prog 22 #[i.v] w fun e w' => e = .returned (.bool (vld i)) ∧ Below w.heap.size w w' := by
  obtain ⟨op, rd, ra, rb, imm⟩ := i
  have p0 := hT.parts 30 (by omega)
  have p1 := hT.parts 31 (by omega)
  have p2 := hT.parts 32 (by omega)
  have p3 := hT.parts 33 (by omega)
  have p4 := hT.parts 34 (by omega)
  simp only [ptl, List.getD_cons_succ, List.getD_cons_zero] at p0 p1 p2 p3 p4
  unfold In.v
  dsimp only at hf ⊢
  rw [vld_6 hf]
  have hsz0 : 1 < w.heap.size := Nat.lt_of_lt_of_le (by decide) hT.size
  have hsz00 : 0 < w.heap.size := Nat.lt_trans (by decide) hsz0
  have HF := Lib.hid hf; clear hf
  have HT := Lib.hid hT; clear hT
  go_enter Tryz.func22, Tryz.ntmps22
  go_wp2_with fail
  refine (format_at op 6 _ (HT.out.later ((Below.refl _ _).alloc (Nat.le_refl _) _)) HF.out).mono ?_
  rintro e w' ⟨rfl, rfl⟩
  go_wp2_with (first | (go_at_call 46; refine (fits_any _ _).mono ?_; rintro e w' ⟨rfl, ⟨nq, rfl⟩⟩) | (go_at_call 47; refine (register_any _ _ _).mono ?_; rintro e w' ⟨rfl, ⟨nq, rfl⟩⟩))
  all_goals go_ret
  all_goals exact ⟨by first | (simp [*]; done) | (simp [*]; intros; omega), by repeat (first | exact Below.refl _ _ | refine bdrew ?_ _ | refine Below.alloc ?_ (by simp) _)⟩
theorem vld_7 {op rd ra rb imm : Int} (hf : fmt op = 7) : vld ⟨op, rd, ra, rb, imm⟩ = ((imm == 0) && (rg rd false && (rg ra true && rg rb false))) := by
  unfold vld numOk
  dsimp only
  rw [hf, show hasF 7 0 = false from rfl, show hasF 7 1 = true from rfl, show hasF 7 2 = false from rfl, show hasF 7 3 = false from rfl, show hasF 7 4 = false from rfl]
  simp
set_option maxRecDepth 100000 in
set_option maxHeartbeats 1000000 in
theorem valid_7 (i : In) (w : World) (hT : Tabs w) (hf : fmt i.op = 7) :
    Calls Tryz.prog 22 #[i.v] w fun e w' => e = .returned (.bool (vld i)) ∧ Below w.heap.size w w' := by
  obtain ⟨op, rd, ra, rb, imm⟩ := i
  have p0 := hT.parts 35 (by omega)
  have p1 := hT.parts 36 (by omega)
  have p2 := hT.parts 37 (by omega)
  have p3 := hT.parts 38 (by omega)
  have p4 := hT.parts 39 (by omega)
  simp only [ptl, List.getD_cons_succ, List.getD_cons_zero] at p0 p1 p2 p3 p4
  unfold In.v
  dsimp only at hf ⊢
  rw [vld_7 hf]
  have hsz0 : 1 < w.heap.size := Nat.lt_of_lt_of_le (by decide) hT.size
  have hsz00 : 0 < w.heap.size := Nat.lt_trans (by decide) hsz0
  have HF := Lib.hid hf; clear hf
  have HT := Lib.hid hT; clear hT
  go_enter Tryz.func22, Tryz.ntmps22
  go_wp2_with fail
  refine (format_at op 7 _ (HT.out.later ((Below.refl _ _).alloc (Nat.le_refl _) _)) HF.out).mono ?_
  rintro e w' ⟨rfl, rfl⟩
  go_wp2_with (first | (go_at_call 46; refine (fits_any _ _).mono ?_; rintro e w' ⟨rfl, ⟨nq, rfl⟩⟩) | (go_at_call 47; refine (register_any _ _ _).mono ?_; rintro e w' ⟨rfl, ⟨nq, rfl⟩⟩))
  all_goals go_ret
  all_goals exact ⟨by first | (simp [*]; done) | (simp [*]; intros; omega), by repeat (first | exact Below.refl _ _ | refine bdrew ?_ _ | refine Below.alloc ?_ (by simp) _)⟩
theorem valid_0 (i : In) (w : World) (hT : Tabs w) (hf : fmt i.op = 0) :
    Calls Tryz.prog 22 #[i.v] w fun e w' => e = .returned (.bool (vld i)) ∧ Below w.heap.size w w' := by
  obtain ⟨op, rd, ra, rb, imm⟩ := i
  unfold In.v vld
  dsimp only at hf ⊢
  rw [hf]
  have HF := Lib.hid hf; clear hf
  have HT := Lib.hid hT; clear hT
  go_enter Tryz.func22, Tryz.ntmps22
  go_wp2_with fail
  refine (format_at op 0 _ (HT.out.later ((Below.refl _ _).alloc (Nat.le_refl _) _)) HF.out).mono ?_
  rintro e w' ⟨rfl, rfl⟩
  go_wp2_with fail
  go_ret
  exact ⟨by simp, (Below.refl _ _).alloc (Nat.le_refl _) _⟩
theorem valid_any (i : In) (w : World) (hT : Tabs w) : Calls Tryz.prog 22 #[i.v] w fun e w' => e = .returned (.bool (vld i)) ∧ Below w.heap.size w w' := by
  rcases fmt_cases i.op with e | e | e | e | e | e | e | e
  · exact valid_0 i w hT e
  · exact valid_1 i w hT e
  · exact valid_2 i w hT e
  · exact valid_3 i w hT e
  · exact valid_4 i w hT e
  · exact valid_5 i w hT e
  · exact valid_6 i w hT e
  · exact valid_7 i w hT e
theorem valid_at (i : In) (b : Bool) (w : World) (hT : Tabs w) (hv : vld i = b) : Calls Tryz.prog 22 #[i.v] w fun e w' => e = .returned (.bool b) ∧ Below w.heap.size w w' := by
  subst hv; exact valid_any i w hT
theorem lowbits_at (x : Int) (r : Nat) (w : World) (hr : wd x % 2 ^ 18 = r) : Calls Tryz.prog 74 #[.int .i32 x, .int .i64 18] w fun e w' => e = .returned (.int .u32 (r : Int)) ∧ ∃ n, w' = w.drewN n := by
  subst hr; exact (bits_LowBits.calls _ _ _ _ (i_lowbits x 18 (by omega))).mono fun _ _ ⟨he, hd⟩ => ⟨he, hd.out⟩
theorem insert_at (x p n v r : Nat) (P N : Int) (hP : P = p) (hN : N = n) (w : World) (hx : x < 2 ^ 32) (hv : v < 2 ^ 32) (hp : p + n ≤ 32) (hr : ins x p n v = r) :
    Calls Tryz.prog 73 #[.int .u32 (x : Int), .int .i64 P, .int .i64 N, .int .u32 (v : Int)] w fun e w' => e = .returned (.int .u32 (r : Int)) ∧ ∃ n, w' = w.drewN n := by
  subst hP hN hr; exact (bits_Insert.calls _ _ _ _ _ _ (i_insert x p n v hx hv hp)).mono fun _ _ ⟨he, hd⟩ => ⟨he, hd.out⟩
theorem extract_at (x p n r : Nat) (P N : Int) (hP : P = p) (hN : N = n) (w : World) (hx : x < 2 ^ 32) (hp : p ≤ 32) (hn : n ≤ 32) (hr : fld x p n = r) :
    Calls Tryz.prog 66 #[.int .u32 (x : Int), .int .i64 P, .int .i64 N] w fun e w' => e = .returned (.int .u32 (r : Int)) ∧ ∃ n, w' = w.drewN n := by
  subst hP hN hr; exact (bits_Extract.calls _ _ _ _ _ (i_extract x p n hx hp hn)).mono fun _ _ ⟨he, hd⟩ => ⟨he, hd.out⟩
theorem sign_at (x n : Nat) (r : Int) (N : Int) (hN : N = n) (w : World) (h1 : 1 ≤ n) (hn : n ≤ 32) (hr : sgn x n = r) :
    Calls Tryz.prog 67 #[.int .u32 (x : Int), .int .i64 N] w fun e w' => e = .returned (.int .i32 r) ∧ ∃ n, w' = w.drewN n := by
  subst hN hr; exact (bits_SignExtend.calls _ _ _ _ (i_sign x n h1 hn)).mono fun _ _ ⟨he, hd⟩ => ⟨he, hd.out⟩
end Go.Proofs.YtihnglgknncgpaaGreatDoor.Isa
