/- isa.Decode, walked. -/
import Derived.Test.YtihnglgknncgpaaGreatDoorIsaW2
namespace Go.Proofs.YtihnglgknncgpaaGreatDoor.Isa
open Go Go.RowKit Go.Proofs.YtihnglgknncgpaaGreatDoor.PAsmEveryWordHasOneLine Go.Proofs.YtihnglgknncgpaaGreatDoorW.PrintWords Go.Proofs.YtihnglgknncgpaaGreatDoorW.PrintLast Go.Proofs.YtihnglgknncgpaaGreatDoorW.PrintMore Go.Proofs.YtihnglgknncgpaaGreatDoor.Bm
set_option linter.unusedVariables false
set_option linter.unusedSimpArgs false
set_option maxRecDepth 100000 in
set_option maxHeartbeats 1000000 in
theorem dec_1_yes (w o d a b : Nat) (r : Nat) (W : World) (hT : Tabs W) (hw : w < 2 ^ 32) (lo : o < 64) (ld : d < 16) (la : a < 16) (lb : b < 16) 
    (e1 : fld w 26 6 = o) (e2 : fld w 22 4 = d) (e3 : fld w 18 4 = a) (e4 : fld w 0 4 = b) (hf : fmt (o : Int) = 1)
    (C5 : ∀ W, Tabs W → Calls Tryz.prog 51 #[.agg #[.int .i64 (o : Int), .int .i64 (d : Int), .int .i64 (a : Int), .int .i64 (b : Int), .int .i32 0]] W fun e w' => e = .returned (.tuple #[.int .u32 (r : Int), .bool true]) ∧ Below W.heap.size W w') (heq : r = w) :
    Calls Tryz.prog 42 #[.int .u32 (w : Int)] W fun e w' => e = .returned (.tuple #[.agg #[.int .i64 (o : Int), .int .i64 (d : Int), .int .i64 (a : Int), .int .i64 (b : Int), .int .i32 0], .bool true]) ∧ Below W.heap.size W w' := by
  have C1 := Lib.hid (fun W => extract_at w 26 6 o 26 6 rfl rfl W hw (by omega) (by omega) e1)
  have C2 := Lib.hid (fun W => extract_at w 22 4 d 22 4 rfl rfl W hw (by omega) (by omega) e2)
  have C3 := Lib.hid (fun W => extract_at w 18 4 a 18 4 rfl rfl W hw (by omega) (by omega) e3)
  have C4 := Lib.hid (fun W => extract_at w 0 4 b 0 4 rfl rfl W hw (by omega) (by omega) e4)
  have hc0 := hT.parts 7 (by omega)
  simp only [ptl, List.getD_cons_succ, List.getD_cons_zero] at hc0
  have HF := Lib.hid hf
  have H5 := Lib.hid C5
  have hsz0 : 1 < W.heap.size := Nat.lt_of_lt_of_le (by decide) hT.size
  have hsz00 : 0 < W.heap.size := Nat.lt_trans (by decide) hsz0
  subst heq
  have HT := Lib.hid hT
  clear hT hf e1 e2 e3 e4 C5 hw 
  go_enter Tryz.func42, Tryz.ntmps42
  go_wp2_with fail
  refine (C1.out _).mono ?_
  rintro e w' ⟨rfl, ⟨n1, rfl⟩⟩
  go_wp2_with fail
  refine (C2.out _).mono ?_
  rintro e w' ⟨rfl, ⟨n2, rfl⟩⟩
  go_wp2_with fail
  refine (C3.out _).mono ?_
  rintro e w' ⟨rfl, ⟨n3, rfl⟩⟩
  go_wp2_with fail
  refine (format_at _ 1 _ ?_ HF.out).mono ?_
  · exact HT.out.later (bdrew (((Below.refl _ W).alloc (Nat.le_refl _) _).alloc (by simp) _) _)
  rintro e w' ⟨rfl, rfl⟩
  go_wp2_with fail
  refine (C4.out _).mono ?_
  rintro e w' ⟨rfl, ⟨n4, rfl⟩⟩
  go_wp2_with fail
  refine (H5.out _ ?_).mono ?_
  · exact HT.out.later (by repeat (first | exact Below.refl _ _ | refine bdrew ?_ _ | refine Below.alloc ?_ (by simp) _ | refine Below.setCell ?_ (by simp) _))
  rintro e w' ⟨rfl, hb⟩
  have hc := fun j => hb.cell (p := ⟨W.heap.size + 1, j, none⟩) (by simp)
  have hcr := fun j => hb.cell (p := ⟨W.heap.size, j, none⟩) (by simp; omega)
  have hz : W.heap.size + 1 < w'.heap.size := by have := hb.size; simp at this; omega
  have hfr := fun j => hb.frozen (p := ⟨W.heap.size, j, none⟩) (by simp; omega)
  have HB : Hid (Below W.heap.size W w') := Lib.hid (Below.trans (by repeat (first | exact Below.refl _ _ | refine bdrew ?_ _ | refine Below.alloc ?_ (by simp) _ | refine Below.setCell ?_ (by simp) _)) (hb.mono (by simp; omega)))
  clear hb
  go_wp2_with fail
  refine bodyPost_ret (v := .tuple #[.agg #[.int .i64 (o : Int), .int .i64 (d : Int), .int .i64 (a : Int), .int .i64 (b : Int), .int .i32 0], .bool true]) (by simp [results, Tryz.results42, go_sem, hcr]) rfl ⟨rfl, ?_⟩
  repeat (first | exact HB.out | refine Below.setCell ?_ (by simp) _)
set_option maxRecDepth 100000 in
set_option maxHeartbeats 1000000 in
theorem dec_1_part (w o d a b : Nat) (r : Nat) (W : World) (hT : Tabs W) (hw : w < 2 ^ 32) (lo : o < 64) (ld : d < 16) (la : a < 16) (lb : b < 16) 
    (e1 : fld w 26 6 = o) (e2 : fld w 22 4 = d) (e3 : fld w 18 4 = a) (e4 : fld w 0 4 = b) (hf : fmt (o : Int) = 1)
    (C5 : ∀ W, Tabs W → Calls Tryz.prog 51 #[.agg #[.int .i64 (o : Int), .int .i64 (d : Int), .int .i64 (a : Int), .int .i64 (b : Int), .int .i32 0]] W fun e w' => e = .returned (.tuple #[.int .u32 (r : Int), .bool true]) ∧ Below W.heap.size W w') (heq : r ≠ w) :
    Calls Tryz.prog 42 #[.int .u32 (w : Int)] W fun e w' => e = .returned (.tuple #[.agg #[.int .i64 0, .int .i64 0, .int .i64 0, .int .i64 0, .int .i32 0], .bool false]) ∧ Below W.heap.size W w' := by
  have C1 := Lib.hid (fun W => extract_at w 26 6 o 26 6 rfl rfl W hw (by omega) (by omega) e1)
  have C2 := Lib.hid (fun W => extract_at w 22 4 d 22 4 rfl rfl W hw (by omega) (by omega) e2)
  have C3 := Lib.hid (fun W => extract_at w 18 4 a 18 4 rfl rfl W hw (by omega) (by omega) e3)
  have C4 := Lib.hid (fun W => extract_at w 0 4 b 0 4 rfl rfl W hw (by omega) (by omega) e4)
  have hc0 := hT.parts 7 (by omega)
  simp only [ptl, List.getD_cons_succ, List.getD_cons_zero] at hc0
  have HF := Lib.hid hf
  have H5 := Lib.hid C5
  have hsz0 : 1 < W.heap.size := Nat.lt_of_lt_of_le (by decide) hT.size
  have hsz00 : 0 < W.heap.size := Nat.lt_trans (by decide) hsz0
  have hne : ((r : Int) == (w : Int)) = false := by rw [beq_eq_false_iff_ne]; omega
  have hne2 : ((r : Int) != (w : Int)) = true := by rw [bne_iff_ne]; omega
  have HT := Lib.hid hT
  clear hT hf e1 e2 e3 e4 C5 hw heq 
  go_enter Tryz.func42, Tryz.ntmps42
  go_wp2_with fail
  refine (C1.out _).mono ?_
  rintro e w' ⟨rfl, ⟨n1, rfl⟩⟩
  go_wp2_with fail
  refine (C2.out _).mono ?_
  rintro e w' ⟨rfl, ⟨n2, rfl⟩⟩
  go_wp2_with fail
  refine (C3.out _).mono ?_
  rintro e w' ⟨rfl, ⟨n3, rfl⟩⟩
  go_wp2_with fail
  refine (format_at _ 1 _ ?_ HF.out).mono ?_
  · exact HT.out.later (bdrew (((Below.refl _ W).alloc (Nat.le_refl _) _).alloc (by simp) _) _)
  rintro e w' ⟨rfl, rfl⟩
  go_wp2_with fail
  refine (C4.out _).mono ?_
  rintro e w' ⟨rfl, ⟨n4, rfl⟩⟩
  go_wp2_with fail
  refine (H5.out _ ?_).mono ?_
  · exact HT.out.later (by repeat (first | exact Below.refl _ _ | refine bdrew ?_ _ | refine Below.alloc ?_ (by simp) _ | refine Below.setCell ?_ (by simp) _))
  rintro e w' ⟨rfl, hb⟩
  have hc := fun j => hb.cell (p := ⟨W.heap.size + 1, j, none⟩) (by simp)
  have hcr := fun j => hb.cell (p := ⟨W.heap.size, j, none⟩) (by simp; omega)
  have hz : W.heap.size + 1 < w'.heap.size := by have := hb.size; simp at this; omega
  have hfr := fun j => hb.frozen (p := ⟨W.heap.size, j, none⟩) (by simp; omega)
  have HB : Hid (Below W.heap.size W w') := Lib.hid (Below.trans (by repeat (first | exact Below.refl _ _ | refine bdrew ?_ _ | refine Below.alloc ?_ (by simp) _ | refine Below.setCell ?_ (by simp) _)) (hb.mono (by simp; omega)))
  clear hb
  go_wp2_with fail
  refine bodyPost_ret (v := .tuple #[.agg #[.int .i64 0, .int .i64 0, .int .i64 0, .int .i64 0, .int .i32 0], .bool false]) (by simp [results, Tryz.results42, go_sem, hcr]) rfl ⟨rfl, ?_⟩
  repeat (first | exact HB.out | refine Below.setCell ?_ (by simp) _)
set_option maxRecDepth 100000 in
set_option maxHeartbeats 1000000 in
theorem dec_1_no (w o d a b : Nat) (r : Nat) (W : World) (hT : Tabs W) (hw : w < 2 ^ 32) (lo : o < 64) (ld : d < 16) (la : a < 16) (lb : b < 16) 
    (e1 : fld w 26 6 = o) (e2 : fld w 22 4 = d) (e3 : fld w 18 4 = a) (e4 : fld w 0 4 = b) (hf : fmt (o : Int) = 1)
    (C5 : ∀ W, Tabs W → Calls Tryz.prog 51 #[.agg #[.int .i64 (o : Int), .int .i64 (d : Int), .int .i64 (a : Int), .int .i64 (b : Int), .int .i32 0]] W fun e w' => e = .returned (.tuple #[.int .u32 (r : Int), .bool false]) ∧ Below W.heap.size W w') :
    Calls Tryz.prog 42 #[.int .u32 (w : Int)] W fun e w' => e = .returned (.tuple #[.agg #[.int .i64 0, .int .i64 0, .int .i64 0, .int .i64 0, .int .i32 0], .bool false]) ∧ Below W.heap.size W w' := by
  have C1 := Lib.hid (fun W => extract_at w 26 6 o 26 6 rfl rfl W hw (by omega) (by omega) e1)
  have C2 := Lib.hid (fun W => extract_at w 22 4 d 22 4 rfl rfl W hw (by omega) (by omega) e2)
  have C3 := Lib.hid (fun W => extract_at w 18 4 a 18 4 rfl rfl W hw (by omega) (by omega) e3)
  have C4 := Lib.hid (fun W => extract_at w 0 4 b 0 4 rfl rfl W hw (by omega) (by omega) e4)
  have hc0 := hT.parts 7 (by omega)
  simp only [ptl, List.getD_cons_succ, List.getD_cons_zero] at hc0
  have HF := Lib.hid hf
  have H5 := Lib.hid C5
  have hsz0 : 1 < W.heap.size := Nat.lt_of_lt_of_le (by decide) hT.size
  have hsz00 : 0 < W.heap.size := Nat.lt_trans (by decide) hsz0
  have HT := Lib.hid hT
  clear hT hf e1 e2 e3 e4 C5 hw 
  go_enter Tryz.func42, Tryz.ntmps42
  go_wp2_with fail
  refine (C1.out _).mono ?_
  rintro e w' ⟨rfl, ⟨n1, rfl⟩⟩
  go_wp2_with fail
  refine (C2.out _).mono ?_
  rintro e w' ⟨rfl, ⟨n2, rfl⟩⟩
  go_wp2_with fail
  refine (C3.out _).mono ?_
  rintro e w' ⟨rfl, ⟨n3, rfl⟩⟩
  go_wp2_with fail
  refine (format_at _ 1 _ ?_ HF.out).mono ?_
  · exact HT.out.later (bdrew (((Below.refl _ W).alloc (Nat.le_refl _) _).alloc (by simp) _) _)
  rintro e w' ⟨rfl, rfl⟩
  go_wp2_with fail
  refine (C4.out _).mono ?_
  rintro e w' ⟨rfl, ⟨n4, rfl⟩⟩
  go_wp2_with fail
  refine (H5.out _ ?_).mono ?_
  · exact HT.out.later (by repeat (first | exact Below.refl _ _ | refine bdrew ?_ _ | refine Below.alloc ?_ (by simp) _ | refine Below.setCell ?_ (by simp) _))
  rintro e w' ⟨rfl, hb⟩
  have hc := fun j => hb.cell (p := ⟨W.heap.size + 1, j, none⟩) (by simp)
  have hcr := fun j => hb.cell (p := ⟨W.heap.size, j, none⟩) (by simp; omega)
  have hz : W.heap.size + 1 < w'.heap.size := by have := hb.size; simp at this; omega
  have hfr := fun j => hb.frozen (p := ⟨W.heap.size, j, none⟩) (by simp; omega)
  have HB : Hid (Below W.heap.size W w') := Lib.hid (Below.trans (by repeat (first | exact Below.refl _ _ | refine bdrew ?_ _ | refine Below.alloc ?_ (by simp) _ | refine Below.setCell ?_ (by simp) _)) (hb.mono (by simp; omega)))
  clear hb
  go_wp2_with fail
  refine bodyPost_ret (v := .tuple #[.agg #[.int .i64 0, .int .i64 0, .int .i64 0, .int .i64 0, .int .i32 0], .bool false]) (by simp [results, Tryz.results42, go_sem, hcr]) rfl ⟨rfl, ?_⟩
  repeat (first | exact HB.out | refine Below.setCell ?_ (by simp) _)
set_option maxRecDepth 100000 in
set_option maxHeartbeats 1000000 in
theorem dec_2_yes (w o d a f : Nat) (m : Int) (r : Nat) (W : World) (hT : Tabs W) (hw : w < 2 ^ 32) (lo : o < 64) (ld : d < 16) (la : a < 16) 
    (e1 : fld w 26 6 = o) (e2 : fld w 22 4 = d) (e3 : fld w 18 4 = a) (e4 : sgn w 18 = m) (hf : fmt (o : Int) = (f : Int)) (lf : f < 8) (nf : f ≠ 1)
    (C5 : ∀ W, Tabs W → Calls Tryz.prog 51 #[.agg #[.int .i64 (o : Int), .int .i64 (d : Int), .int .i64 (a : Int), .int .i64 0, .int .i32 m]] W fun e w' => e = .returned (.tuple #[.int .u32 (r : Int), .bool true]) ∧ Below W.heap.size W w') (heq : r = w) :
    Calls Tryz.prog 42 #[.int .u32 (w : Int)] W fun e w' => e = .returned (.tuple #[.agg #[.int .i64 (o : Int), .int .i64 (d : Int), .int .i64 (a : Int), .int .i64 0, .int .i32 m], .bool true]) ∧ Below W.heap.size W w' := by
  have C1 := Lib.hid (fun W => extract_at w 26 6 o 26 6 rfl rfl W hw (by omega) (by omega) e1)
  have C2 := Lib.hid (fun W => extract_at w 22 4 d 22 4 rfl rfl W hw (by omega) (by omega) e2)
  have C3 := Lib.hid (fun W => extract_at w 18 4 a 18 4 rfl rfl W hw (by omega) (by omega) e3)
  have C4 := Lib.hid (fun W => sign_at w 18 m 18 rfl W (by omega) (by omega) e4)
  have hc0 : W.cell? ⟨1, f * 5 + 2, none⟩ = some (.bool false) := by
    rw [hT.parts (f * 5 + 2) (by omega)]
    have : ∀ f, f < 8 → f ≠ 1 → ptl.getD (f * 5 + 2) false = false := by decide
    rw [this f lf nf]
  have HF := Lib.hid hf
  have H5 := Lib.hid C5
  have hsz0 : 1 < W.heap.size := Nat.lt_of_lt_of_le (by decide) hT.size
  have hsz00 : 0 < W.heap.size := Nat.lt_trans (by decide) hsz0
  subst heq
  have HT := Lib.hid hT
  clear hT hf e1 e2 e3 e4 C5 hw nf
  go_enter Tryz.func42, Tryz.ntmps42
  go_wp2_with fail
  refine (C1.out _).mono ?_
  rintro e w' ⟨rfl, ⟨n1, rfl⟩⟩
  go_wp2_with fail
  refine (C2.out _).mono ?_
  rintro e w' ⟨rfl, ⟨n2, rfl⟩⟩
  go_wp2_with fail
  refine (C3.out _).mono ?_
  rintro e w' ⟨rfl, ⟨n3, rfl⟩⟩
  go_wp2_with fail
  refine (format_at _ _ _ ?_ HF.out).mono ?_
  · exact HT.out.later (bdrew (((Below.refl _ W).alloc (Nat.le_refl _) _).alloc (by simp) _) _)
  rintro e w' ⟨rfl, rfl⟩
  go_wp2_with fail
  refine (C4.out _).mono ?_
  rintro e w' ⟨rfl, ⟨n4, rfl⟩⟩
  go_wp2_with fail
  refine (H5.out _ ?_).mono ?_
  · exact HT.out.later (by repeat (first | exact Below.refl _ _ | refine bdrew ?_ _ | refine Below.alloc ?_ (by simp) _ | refine Below.setCell ?_ (by simp) _))
  rintro e w' ⟨rfl, hb⟩
  have hc := fun j => hb.cell (p := ⟨W.heap.size + 1, j, none⟩) (by simp)
  have hcr := fun j => hb.cell (p := ⟨W.heap.size, j, none⟩) (by simp; omega)
  have hz : W.heap.size + 1 < w'.heap.size := by have := hb.size; simp at this; omega
  have hfr := fun j => hb.frozen (p := ⟨W.heap.size, j, none⟩) (by simp; omega)
  have HB : Hid (Below W.heap.size W w') := Lib.hid (Below.trans (by repeat (first | exact Below.refl _ _ | refine bdrew ?_ _ | refine Below.alloc ?_ (by simp) _ | refine Below.setCell ?_ (by simp) _)) (hb.mono (by simp; omega)))
  clear hb
  go_wp2_with fail
  refine bodyPost_ret (v := .tuple #[.agg #[.int .i64 (o : Int), .int .i64 (d : Int), .int .i64 (a : Int), .int .i64 0, .int .i32 m], .bool true]) (by simp [results, Tryz.results42, go_sem, hcr]) rfl ⟨rfl, ?_⟩
  repeat (first | exact HB.out | refine Below.setCell ?_ (by simp) _)
set_option maxRecDepth 100000 in
set_option maxHeartbeats 1000000 in
theorem dec_2_part (w o d a f : Nat) (m : Int) (r : Nat) (W : World) (hT : Tabs W) (hw : w < 2 ^ 32) (lo : o < 64) (ld : d < 16) (la : a < 16) 
    (e1 : fld w 26 6 = o) (e2 : fld w 22 4 = d) (e3 : fld w 18 4 = a) (e4 : sgn w 18 = m) (hf : fmt (o : Int) = (f : Int)) (lf : f < 8) (nf : f ≠ 1)
    (C5 : ∀ W, Tabs W → Calls Tryz.prog 51 #[.agg #[.int .i64 (o : Int), .int .i64 (d : Int), .int .i64 (a : Int), .int .i64 0, .int .i32 m]] W fun e w' => e = .returned (.tuple #[.int .u32 (r : Int), .bool true]) ∧ Below W.heap.size W w') (heq : r ≠ w) :
    Calls Tryz.prog 42 #[.int .u32 (w : Int)] W fun e w' => e = .returned (.tuple #[.agg #[.int .i64 0, .int .i64 0, .int .i64 0, .int .i64 0, .int .i32 0], .bool false]) ∧ Below W.heap.size W w' := by
  have C1 := Lib.hid (fun W => extract_at w 26 6 o 26 6 rfl rfl W hw (by omega) (by omega) e1)
  have C2 := Lib.hid (fun W => extract_at w 22 4 d 22 4 rfl rfl W hw (by omega) (by omega) e2)
  have C3 := Lib.hid (fun W => extract_at w 18 4 a 18 4 rfl rfl W hw (by omega) (by omega) e3)
  have C4 := Lib.hid (fun W => sign_at w 18 m 18 rfl W (by omega) (by omega) e4)
  have hc0 : W.cell? ⟨1, f * 5 + 2, none⟩ = some (.bool false) := by
    rw [hT.parts (f * 5 + 2) (by omega)]
    have : ∀ f, f < 8 → f ≠ 1 → ptl.getD (f * 5 + 2) false = false := by decide
    rw [this f lf nf]
  have HF := Lib.hid hf
  have H5 := Lib.hid C5
  have hsz0 : 1 < W.heap.size := Nat.lt_of_lt_of_le (by decide) hT.size
  have hsz00 : 0 < W.heap.size := Nat.lt_trans (by decide) hsz0
  have hne : ((r : Int) == (w : Int)) = false := by rw [beq_eq_false_iff_ne]; omega
  have hne2 : ((r : Int) != (w : Int)) = true := by rw [bne_iff_ne]; omega
  have HT := Lib.hid hT
  clear hT hf e1 e2 e3 e4 C5 hw heq nf
  go_enter Tryz.func42, Tryz.ntmps42
  go_wp2_with fail
  refine (C1.out _).mono ?_
  rintro e w' ⟨rfl, ⟨n1, rfl⟩⟩
  go_wp2_with fail
  refine (C2.out _).mono ?_
  rintro e w' ⟨rfl, ⟨n2, rfl⟩⟩
  go_wp2_with fail
  refine (C3.out _).mono ?_
  rintro e w' ⟨rfl, ⟨n3, rfl⟩⟩
  go_wp2_with fail
  refine (format_at _ _ _ ?_ HF.out).mono ?_
  · exact HT.out.later (bdrew (((Below.refl _ W).alloc (Nat.le_refl _) _).alloc (by simp) _) _)
  rintro e w' ⟨rfl, rfl⟩
  go_wp2_with fail
  refine (C4.out _).mono ?_
  rintro e w' ⟨rfl, ⟨n4, rfl⟩⟩
  go_wp2_with fail
  refine (H5.out _ ?_).mono ?_
  · exact HT.out.later (by repeat (first | exact Below.refl _ _ | refine bdrew ?_ _ | refine Below.alloc ?_ (by simp) _ | refine Below.setCell ?_ (by simp) _))
  rintro e w' ⟨rfl, hb⟩
  have hc := fun j => hb.cell (p := ⟨W.heap.size + 1, j, none⟩) (by simp)
  have hcr := fun j => hb.cell (p := ⟨W.heap.size, j, none⟩) (by simp; omega)
  have hz : W.heap.size + 1 < w'.heap.size := by have := hb.size; simp at this; omega
  have hfr := fun j => hb.frozen (p := ⟨W.heap.size, j, none⟩) (by simp; omega)
  have HB : Hid (Below W.heap.size W w') := Lib.hid (Below.trans (by repeat (first | exact Below.refl _ _ | refine bdrew ?_ _ | refine Below.alloc ?_ (by simp) _ | refine Below.setCell ?_ (by simp) _)) (hb.mono (by simp; omega)))
  clear hb
  go_wp2_with fail
  refine bodyPost_ret (v := .tuple #[.agg #[.int .i64 0, .int .i64 0, .int .i64 0, .int .i64 0, .int .i32 0], .bool false]) (by simp [results, Tryz.results42, go_sem, hcr]) rfl ⟨rfl, ?_⟩
  repeat (first | exact HB.out | refine Below.setCell ?_ (by simp) _)
set_option maxRecDepth 100000 in
set_option maxHeartbeats 1000000 in
theorem dec_2_no (w o d a f : Nat) (m : Int) (r : Nat) (W : World) (hT : Tabs W) (hw : w < 2 ^ 32) (lo : o < 64) (ld : d < 16) (la : a < 16) 
    (e1 : fld w 26 6 = o) (e2 : fld w 22 4 = d) (e3 : fld w 18 4 = a) (e4 : sgn w 18 = m) (hf : fmt (o : Int) = (f : Int)) (lf : f < 8) (nf : f ≠ 1)
    (C5 : ∀ W, Tabs W → Calls Tryz.prog 51 #[.agg #[.int .i64 (o : Int), .int .i64 (d : Int), .int .i64 (a : Int), .int .i64 0, .int .i32 m]] W fun e w' => e = .returned (.tuple #[.int .u32 (r : Int), .bool false]) ∧ Below W.heap.size W w') :
    Calls Tryz.prog 42 #[.int .u32 (w : Int)] W fun e w' => e = .returned (.tuple #[.agg #[.int .i64 0, .int .i64 0, .int .i64 0, .int .i64 0, .int .i32 0], .bool false]) ∧ Below W.heap.size W w' := by
  have C1 := Lib.hid (fun W => extract_at w 26 6 o 26 6 rfl rfl W hw (by omega) (by omega) e1)
  have C2 := Lib.hid (fun W => extract_at w 22 4 d 22 4 rfl rfl W hw (by omega) (by omega) e2)
  have C3 := Lib.hid (fun W => extract_at w 18 4 a 18 4 rfl rfl W hw (by omega) (by omega) e3)
  have C4 := Lib.hid (fun W => sign_at w 18 m 18 rfl W (by omega) (by omega) e4)
  have hc0 : W.cell? ⟨1, f * 5 + 2, none⟩ = some (.bool false) := by
    rw [hT.parts (f * 5 + 2) (by omega)]
    have : ∀ f, f < 8 → f ≠ 1 → ptl.getD (f * 5 + 2) false = false := by decide
    rw [this f lf nf]
  have HF := Lib.hid hf
  have H5 := Lib.hid C5
  have hsz0 : 1 < W.heap.size := Nat.lt_of_lt_of_le (by decide) hT.size
  have hsz00 : 0 < W.heap.size := Nat.lt_trans (by decide) hsz0
  have HT := Lib.hid hT
  clear hT hf e1 e2 e3 e4 C5 hw nf
  go_enter Tryz.func42, Tryz.ntmps42
  go_wp2_with fail
  refine (C1.out _).mono ?_
  rintro e w' ⟨rfl, ⟨n1, rfl⟩⟩
  go_wp2_with fail
  refine (C2.out _).mono ?_
  rintro e w' ⟨rfl, ⟨n2, rfl⟩⟩
  go_wp2_with fail
  refine (C3.out _).mono ?_
  rintro e w' ⟨rfl, ⟨n3, rfl⟩⟩
  go_wp2_with fail
  refine (format_at _ _ _ ?_ HF.out).mono ?_
  · exact HT.out.later (bdrew (((Below.refl _ W).alloc (Nat.le_refl _) _).alloc (by simp) _) _)
  rintro e w' ⟨rfl, rfl⟩
  go_wp2_with fail
  refine (C4.out _).mono ?_
  rintro e w' ⟨rfl, ⟨n4, rfl⟩⟩
  go_wp2_with fail
  refine (H5.out _ ?_).mono ?_
  · exact HT.out.later (by repeat (first | exact Below.refl _ _ | refine bdrew ?_ _ | refine Below.alloc ?_ (by simp) _ | refine Below.setCell ?_ (by simp) _))
  rintro e w' ⟨rfl, hb⟩
  have hc := fun j => hb.cell (p := ⟨W.heap.size + 1, j, none⟩) (by simp)
  have hcr := fun j => hb.cell (p := ⟨W.heap.size, j, none⟩) (by simp; omega)
  have hz : W.heap.size + 1 < w'.heap.size := by have := hb.size; simp at this; omega
  have hfr := fun j => hb.frozen (p := ⟨W.heap.size, j, none⟩) (by simp; omega)
  have HB : Hid (Below W.heap.size W w') := Lib.hid (Below.trans (by repeat (first | exact Below.refl _ _ | refine bdrew ?_ _ | refine Below.alloc ?_ (by simp) _ | refine Below.setCell ?_ (by simp) _)) (hb.mono (by simp; omega)))
  clear hb
  go_wp2_with fail
  refine bodyPost_ret (v := .tuple #[.agg #[.int .i64 0, .int .i64 0, .int .i64 0, .int .i64 0, .int .i32 0], .bool false]) (by simp [results, Tryz.results42, go_sem, hcr]) rfl ⟨rfl, ?_⟩
  repeat (first | exact HB.out | refine Below.setCell ?_ (by simp) _)
theorem decode_any (w : Nat) (W : World) (hT : Tabs W) (hw : w < 2 ^ 32) :
    Calls Tryz.prog 42 #[.int .u32 (w : Int)] W fun e w' => e = .returned (.tuple #[(decR w).v, .bool (decOk w)]) ∧ Below W.heap.size W w' := by
  have e1 : fld w 26 6 = w / 67108864 := by unfold fld; omega
  have e2 : fld w 22 4 = w / 4194304 % 16 := by unfold fld; omega
  have e3 : fld w 18 4 = w / 262144 % 16 := by unfold fld; omega
  have e4 : fld w 0 4 = w % 16 := by unfold fld; omega
  have lo : w / 67108864 < 64 := by omega
  obtain ⟨r, hr⟩ : ∃ r, encR (decI w) = r := ⟨_, rfl⟩
  obtain ⟨ok, hok⟩ : ∃ ok, vld (decI w) = ok := ⟨_, rfl⟩
  have C5 := fun W hT => encode_at (decI w) r ok W hT hr hok
  have hOk : decOk w = (ok && (r == w)) := by
    unfold decOk
    rw [hok, ← hr]
    unfold encR
    rw [hok]
    cases ok <;> simp
  have hR : decR w = if (ok && (r == w)) = true then decI w else nilI := by unfold decR; rw [hOk]
  rw [hR, hOk]
  by_cases hf : fmt ((w / 67108864 : Nat) : Int) = 1
  · have hI : decI w = ⟨((w / 67108864 : Nat) : Int), ((w / 4194304 % 16 : Nat) : Int), ((w / 262144 % 16 : Nat) : Int), ((w % 16 : Nat) : Int), 0⟩ := by unfold decI; rw [if_pos hf]
    rw [hI] at C5 ⊢
    cases ok with
    | false =>
      rw [Bool.false_and, if_neg (by decide)]
      exact dec_1_no w _ _ _ _ r W hT hw lo (by omega) (by omega) (by omega) e1 e2 e3 e4 hf C5
    | true =>
      by_cases heq : r = w
      · rw [beq_iff_eq.2 heq, Bool.and_self, if_pos rfl]
        exact dec_1_yes w _ _ _ _ r W hT hw lo (by omega) (by omega) (by omega) e1 e2 e3 e4 hf C5 heq
      · rw [beq_eq_false_iff_ne.2 heq, Bool.and_false, if_neg (by decide)]
        exact dec_1_part w _ _ _ _ r W hT hw lo (by omega) (by omega) (by omega) e1 e2 e3 e4 hf C5 heq
  · have hI : decI w = ⟨((w / 67108864 : Nat) : Int), ((w / 4194304 % 16 : Nat) : Int), ((w / 262144 % 16 : Nat) : Int), 0, sgn w 18⟩ := by unfold decI; rw [if_neg hf]
    rw [hI] at C5 ⊢
    obtain ⟨f, hf', lf⟩ : ∃ f : Nat, fmt ((w / 67108864 : Nat) : Int) = (f : Int) ∧ f < 8 := by
      rcases fmt_cases ((w / 67108864 : Nat) : Int) with e | e | e | e | e | e | e | e
      · exact ⟨0, e, by omega⟩
      · exact ⟨1, e, by omega⟩
      · exact ⟨2, e, by omega⟩
      · exact ⟨3, e, by omega⟩
      · exact ⟨4, e, by omega⟩
      · exact ⟨5, e, by omega⟩
      · exact ⟨6, e, by omega⟩
      · exact ⟨7, e, by omega⟩
    have nf : f ≠ 1 := by intro e; subst e; exact hf hf'
    cases ok with
    | false =>
      rw [Bool.false_and, if_neg (by decide)]
      exact dec_2_no w _ _ _ f _ r W hT hw lo (by omega) (by omega) e1 e2 e3 rfl hf' lf nf C5
    | true =>
      by_cases heq : r = w
      · rw [beq_iff_eq.2 heq, Bool.and_self, if_pos rfl]
        exact dec_2_yes w _ _ _ f _ r W hT hw lo (by omega) (by omega) e1 e2 e3 rfl hf' lf nf C5 heq
      · rw [beq_eq_false_iff_ne.2 heq, Bool.and_false, if_neg (by decide)]
        exact dec_2_part w _ _ _ f _ r W hT hw lo (by omega) (by omega) e1 e2 e3 rfl hf' lf nf C5 heq
end Go.Proofs.YtihnglgknncgpaaGreatDoor.Isa
