/- The law IsaDecodeEncodeRoundTrip, walked. -/
import Derived.Test.YtpajnomngjllpaaDoorIsaP
namespace Go.Proofs.YtpajnomngjllpaaDoor.Isa
open Go Go.RowKit Go.Proofs.YtpajnomngjllpaaDoor.PIsaUnusedBitsMustBeZero Go.Proofs.YtpajnomngjllpaaDoorW.PrintWords Go.Proofs.YtpajnomngjllpaaDoorW.PrintLast Go.Proofs.YtpajnomngjllpaaDoorW.PrintMore Go.Proofs.YtpajnomngjllpaaDoor.Bm
set_option linter.unusedVariables false
set_option linter.unusedSimpArgs false
set_option maxRecDepth 100000 in
set_option maxHeartbeats 4000000 in
theorem law2_no_true (i j : In) (w : Nat) (W : World) (hT : Tabs W) (hw : w < 2 ^ 32) (ri rj : Nat) (oj : Bool) (hri : encR i = ri) (hoi : vld i = false) (hrj : encR j = rj) (hoj : vld j = oj) (b : Bool) (hij : decide (i = j) = b) (hso : decOk w = true) :
    Calls Tryd.prog 4 #[i.v, j.v, .int .u32 (w : Int)] W fun e w' => e = .returned (.bool true) ∧ Below W.heap.size W w' := by
  have E1 := Lib.hid (fun W hT => encode_at i ri false W hT hri hoi)
  have E2 := Lib.hid (fun W hT => encode_at j rj oj W hT hrj hoj)
  have V1 := Lib.hid (fun W hT => valid_at i false W hT hoi)
  have V2 := Lib.hid (fun W hT => valid_at j oj W hT hoj)
  have Q := eqI_at i j b hij
  obtain ⟨k, hk⟩ : ∃ k, decR w = k := ⟨_, rfl⟩
  have D2 := Lib.hid (fun W hT => decode_at w k true W hT hw hk hso)
  have hp := ok_parts hso
  rw [hk] at hp
  have E3 := Lib.hid (fun W hT => encode_at k w true W hT (by unfold encR; rw [if_pos hp.1]; exact hp.2) hp.1)
  have V3 := Lib.hid (fun W hT => valid_at k true W hT hp.1)
  clear hri hoi hrj hoj hw hij hso hk hp
  obtain ⟨i0, i1, i2, i3, i4⟩ := i
  obtain ⟨j0, j1, j2, j3, j4⟩ := j
  obtain ⟨k0, k1, k2, k3, k4⟩ := k
  simp only [In.v] at E1 E2 V1 V2 Q D2 E3 V3 ⊢
  have HT := Lib.hid hT
  clear hT
  go_enter Tryd.func4, Tryd.ntmps4
  go_wp2_with fail
  have B0 : Below W.heap.size W ((W.alloc (.cells #[.int .i64 i0, .int .i64 i1, .int .i64 i2, .int .i64 i3, .int .i32 i4] 23)).alloc (.cells #[.int .i64 j0, .int .i64 j1, .int .i64 j2, .int .i64 j3, .int .i32 j4] 23)) := ((Below.refl _ W).alloc (Nat.le_refl _) _).alloc (by simp) _
  refine (awake_any _ (HT.out.later B0)).mono ?_
  rintro e w1 ⟨rfl, hb⟩
  have B1 : Hid (Below W.heap.size W w1) := Lib.hid (B0.trans (hb.mono (by simp; omega)))
  have z1 : W.heap.size + 2 ≤ w1.heap.size := by have := hb.size; simp at this; omega
  have a1 := keep0 hb (by simp; omega) (keep1 (by simp) (keepN W _ _))
  have c1 := keep0 hb (by simp) (keepN (W.alloc _) _ _)
  rw [World.size_alloc] at c1
  clear hb B0
  go_wp2_with fail
  refine (E1.out _ (HT.out.later B1.out)).mono ?_
  rintro e w2 ⟨rfl, hb⟩
  have B2 : Hid (Below W.heap.size W w2) := Lib.hid (B1.out.trans (hb.mono (by omega)))
  have z2 : W.heap.size + 2 ≤ w2.heap.size := by have := hb.size; omega
  have a2 := keep0 hb (by omega) a1
  have c2 := keep0 hb (by omega) c1
  have y2 : W.heap.size < w2.heap.size := by omega
  clear hb a1 c1
  go_wp2_with fail
  refine (E2.out _ (HT.out.later B2.out)).mono ?_
  rintro e w3 ⟨rfl, hb⟩
  have B3 : Hid (Below W.heap.size W w3) := Lib.hid (B2.out.trans (hb.mono (by omega)))
  have z3 : W.heap.size + 2 ≤ w3.heap.size := by have := hb.size; omega
  have a3 := keep0 hb (by omega) a2
  have c3 := keep0 hb (by omega) c2
  have y3 : W.heap.size < w3.heap.size := by omega
  clear hb a2 c2
  go_wp2_with fail
  refine (V1.out _ (HT.out.later B3.out)).mono ?_
  rintro e w4 ⟨rfl, hb⟩
  have B4 : Hid (Below W.heap.size W w4) := Lib.hid (B3.out.trans (hb.mono (by omega)))
  have z4 : W.heap.size + 2 ≤ w4.heap.size := by have := hb.size; omega
  have a4 := keep0 hb (by omega) a3
  have c4 := keep0 hb (by omega) c3
  have y4 : W.heap.size < w4.heap.size := by omega
  clear hb a3 c3
  go_wp2_with fail
  refine (V2.out _ (HT.out.later B4.out)).mono ?_
  rintro e w5 ⟨rfl, hb⟩
  have B5 : Hid (Below W.heap.size W w5) := Lib.hid (B4.out.trans (hb.mono (by omega)))
  have z5 : W.heap.size + 2 ≤ w5.heap.size := by have := hb.size; omega
  have a5 := keep0 hb (by omega) a4
  have c5 := keep0 hb (by omega) c4
  have y5 : W.heap.size < w5.heap.size := by omega
  clear hb a4 c4
  go_wp2_with fail
  refine (D2.out _ (HT.out.later B5.out)).mono ?_
  rintro e w6 ⟨rfl, hb⟩
  have B6 : Hid (Below W.heap.size W w6) := Lib.hid (B5.out.trans (hb.mono (by omega)))
  have z6 : W.heap.size + 2 ≤ w6.heap.size := by have := hb.size; omega
  clear hb a5 c5
  go_wp2_with fail
  refine (E3.out _ (HT.out.later (B6.out.alloc (by omega) _))).mono ?_
  rintro e w7 ⟨rfl, hb⟩
  have B7 : Hid (Below W.heap.size W w7) := Lib.hid ((B6.out.alloc (by omega) _).trans (hb.mono (by simp; omega)))
  have z7 : w6.heap.size + 1 ≤ w7.heap.size := by have := hb.size; simp at this; omega
  have t7 := keep0 hb (by simp) (keepN w6 _ _)
  clear hb
  go_wp2_with fail
  refine (V3.out _ (HT.out.later B7.out)).mono ?_
  rintro e w8 ⟨rfl, hb⟩
  have B8 : Hid (Below W.heap.size W w8) := Lib.hid (B7.out.trans (hb.mono (by omega)))
  clear hb
  go_wp2_with fail
  go_ret
  exact ⟨by simp, B8.out⟩
set_option maxRecDepth 100000 in
set_option maxHeartbeats 4000000 in
theorem law2_one_true (i j : In) (w : Nat) (W : World) (hT : Tabs W) (hw : w < 2 ^ 32) (ri rj : Nat) (hri : encR i = ri) (hoi : vld i = true) (hrj : encR j = rj) (hoj : vld j = false) (b : Bool) (hij : decide (i = j) = b) (hso : decOk w = true) :
    Calls Tryd.prog 4 #[i.v, j.v, .int .u32 (w : Int)] W fun e w' => e = .returned (.bool true) ∧ Below W.heap.size W w' := by
  have E1 := Lib.hid (fun W hT => encode_at i ri true W hT hri hoi)
  have E2 := Lib.hid (fun W hT => encode_at j rj false W hT hrj hoj)
  have V1 := Lib.hid (fun W hT => valid_at i true W hT hoi)
  have V2 := Lib.hid (fun W hT => valid_at j false W hT hoj)
  have Q := eqI_at i j b hij
  obtain ⟨k, hk⟩ : ∃ k, decR w = k := ⟨_, rfl⟩
  have D2 := Lib.hid (fun W hT => decode_at w k true W hT hw hk hso)
  have hre : ri = encW i := by rw [← hri]; unfold encR; rw [if_pos hoi]
  have hrl : ri < 2 ^ 32 := by rw [hre]; exact encW_lt hoi
  have D1 := Lib.hid (fun W hT => decode_at ri i true W hT hrl (by rw [hre]; exact dec_r hoi) (by rw [hre]; exact dec_ok hoi))
  have Q1 := eqI_at i i true (by simp)
  have hp := ok_parts hso
  rw [hk] at hp
  have E3 := Lib.hid (fun W hT => encode_at k w true W hT (by unfold encR; rw [if_pos hp.1]; exact hp.2) hp.1)
  have V3 := Lib.hid (fun W hT => valid_at k true W hT hp.1)
  clear hri hoi hrj hoj hw hij hso hk hre hrl hp
  obtain ⟨i0, i1, i2, i3, i4⟩ := i
  obtain ⟨j0, j1, j2, j3, j4⟩ := j
  obtain ⟨k0, k1, k2, k3, k4⟩ := k
  simp only [In.v] at E1 E2 V1 V2 Q D2 D1 Q1 E3 V3 ⊢
  have HT := Lib.hid hT
  clear hT
  go_enter Tryd.func4, Tryd.ntmps4
  go_wp2_with fail
  have B0 : Below W.heap.size W ((W.alloc (.cells #[.int .i64 i0, .int .i64 i1, .int .i64 i2, .int .i64 i3, .int .i32 i4] 23)).alloc (.cells #[.int .i64 j0, .int .i64 j1, .int .i64 j2, .int .i64 j3, .int .i32 j4] 23)) := ((Below.refl _ W).alloc (Nat.le_refl _) _).alloc (by simp) _
  refine (awake_any _ (HT.out.later B0)).mono ?_
  rintro e w1 ⟨rfl, hb⟩
  have B1 : Hid (Below W.heap.size W w1) := Lib.hid (B0.trans (hb.mono (by simp; omega)))
  have z1 : W.heap.size + 2 ≤ w1.heap.size := by have := hb.size; simp at this; omega
  have a1 := keep0 hb (by simp; omega) (keep1 (by simp) (keepN W _ _))
  have c1 := keep0 hb (by simp) (keepN (W.alloc _) _ _)
  rw [World.size_alloc] at c1
  clear hb B0
  go_wp2_with fail
  refine (E1.out _ (HT.out.later B1.out)).mono ?_
  rintro e w2 ⟨rfl, hb⟩
  have B2 : Hid (Below W.heap.size W w2) := Lib.hid (B1.out.trans (hb.mono (by omega)))
  have z2 : W.heap.size + 2 ≤ w2.heap.size := by have := hb.size; omega
  have a2 := keep0 hb (by omega) a1
  have c2 := keep0 hb (by omega) c1
  have y2 : W.heap.size < w2.heap.size := by omega
  clear hb a1 c1
  go_wp2_with fail
  refine (E2.out _ (HT.out.later B2.out)).mono ?_
  rintro e w3 ⟨rfl, hb⟩
  have B3 : Hid (Below W.heap.size W w3) := Lib.hid (B2.out.trans (hb.mono (by omega)))
  have z3 : W.heap.size + 2 ≤ w3.heap.size := by have := hb.size; omega
  have a3 := keep0 hb (by omega) a2
  have c3 := keep0 hb (by omega) c2
  have y3 : W.heap.size < w3.heap.size := by omega
  clear hb a2 c2
  go_wp2_with fail
  refine (V1.out _ (HT.out.later B3.out)).mono ?_
  rintro e w4 ⟨rfl, hb⟩
  have B4 : Hid (Below W.heap.size W w4) := Lib.hid (B3.out.trans (hb.mono (by omega)))
  have z4 : W.heap.size + 2 ≤ w4.heap.size := by have := hb.size; omega
  have a4 := keep0 hb (by omega) a3
  have c4 := keep0 hb (by omega) c3
  have y4 : W.heap.size < w4.heap.size := by omega
  clear hb a3 c3
  go_wp2_with fail
  refine (V2.out _ (HT.out.later B4.out)).mono ?_
  rintro e w5 ⟨rfl, hb⟩
  have B5 : Hid (Below W.heap.size W w5) := Lib.hid (B4.out.trans (hb.mono (by omega)))
  have z5 : W.heap.size + 2 ≤ w5.heap.size := by have := hb.size; omega
  have a5 := keep0 hb (by omega) a4
  have c5 := keep0 hb (by omega) c4
  have y5 : W.heap.size < w5.heap.size := by omega
  clear hb a4 c4
  go_wp2_with fail
  refine (D1.out _ (HT.out.later B5.out)).mono ?_
  rintro e w6 ⟨rfl, hb⟩
  have B6 : Hid (Below W.heap.size W w6) := Lib.hid (B5.out.trans (hb.mono (by omega)))
  have z6 : W.heap.size + 2 ≤ w6.heap.size := by have := hb.size; omega
  have a6 := keep0 hb (by omega) a5
  have c6 := keep0 hb (by omega) c5
  have y6 : W.heap.size < w6.heap.size := by omega
  clear hb a5 c5
  go_wp2_with fail
  refine (D2.out _ (HT.out.later (B6.out.alloc (by omega) _))).mono ?_
  rintro e w7 ⟨rfl, hb⟩
  have B7 : Hid (Below W.heap.size W w7) := Lib.hid ((B6.out.alloc (by omega) _).trans (hb.mono (by simp; omega)))
  have z7 : W.heap.size + 2 ≤ w7.heap.size := by have := hb.size; simp at this; omega
  clear hb a6 c6
  go_wp2_with fail
  refine (E3.out _ (HT.out.later (B7.out.alloc (by omega) _))).mono ?_
  rintro e w8 ⟨rfl, hb⟩
  have B8 : Hid (Below W.heap.size W w8) := Lib.hid ((B7.out.alloc (by omega) _).trans (hb.mono (by simp; omega)))
  have z8 : w7.heap.size + 1 ≤ w8.heap.size := by have := hb.size; simp at this; omega
  have t8 := keep0 hb (by simp) (keepN w7 _ _)
  clear hb
  go_wp2_with fail
  refine (V3.out _ (HT.out.later B8.out)).mono ?_
  rintro e w9 ⟨rfl, hb⟩
  have B9 : Hid (Below W.heap.size W w9) := Lib.hid (B8.out.trans (hb.mono (by omega)))
  clear hb
  go_wp2_with fail
  go_ret
  exact ⟨by simp, B9.out⟩
set_option maxRecDepth 100000 in
set_option maxHeartbeats 4000000 in
theorem law2_two_true (i j : In) (w : Nat) (W : World) (hT : Tabs W) (hw : w < 2 ^ 32) (ri rj : Nat) (hri : encR i = ri) (hoi : vld i = true) (hrj : encR j = rj) (hoj : vld j = true) (b : Bool) (hij : decide (i = j) = b) (hq : (((ri : Int) == (rj : Int)) == b) = true) (hso : decOk w = true) :
    Calls Tryd.prog 4 #[i.v, j.v, .int .u32 (w : Int)] W fun e w' => e = .returned (.bool true) ∧ Below W.heap.size W w' := by
  have E1 := Lib.hid (fun W hT => encode_at i ri true W hT hri hoi)
  have E2 := Lib.hid (fun W hT => encode_at j rj true W hT hrj hoj)
  have V1 := Lib.hid (fun W hT => valid_at i true W hT hoi)
  have V2 := Lib.hid (fun W hT => valid_at j true W hT hoj)
  have Q := eqI_at i j b hij
  obtain ⟨k, hk⟩ : ∃ k, decR w = k := ⟨_, rfl⟩
  have D2 := Lib.hid (fun W hT => decode_at w k true W hT hw hk hso)
  have hre : ri = encW i := by rw [← hri]; unfold encR; rw [if_pos hoi]
  have hrl : ri < 2 ^ 32 := by rw [hre]; exact encW_lt hoi
  have D1 := Lib.hid (fun W hT => decode_at ri i true W hT hrl (by rw [hre]; exact dec_r hoi) (by rw [hre]; exact dec_ok hoi))
  have Q1 := eqI_at i i true (by simp)
  have hp := ok_parts hso
  rw [hk] at hp
  have E3 := Lib.hid (fun W hT => encode_at k w true W hT (by unfold encR; rw [if_pos hp.1]; exact hp.2) hp.1)
  have V3 := Lib.hid (fun W hT => valid_at k true W hT hp.1)
  clear hri hoi hrj hoj hw hij hso hk hre hrl hp
  obtain ⟨i0, i1, i2, i3, i4⟩ := i
  obtain ⟨j0, j1, j2, j3, j4⟩ := j
  obtain ⟨k0, k1, k2, k3, k4⟩ := k
  simp only [In.v] at E1 E2 V1 V2 Q D2 D1 Q1 E3 V3 ⊢
  have HT := Lib.hid hT
  clear hT
  go_enter Tryd.func4, Tryd.ntmps4
  go_wp2_with fail
  have B0 : Below W.heap.size W ((W.alloc (.cells #[.int .i64 i0, .int .i64 i1, .int .i64 i2, .int .i64 i3, .int .i32 i4] 23)).alloc (.cells #[.int .i64 j0, .int .i64 j1, .int .i64 j2, .int .i64 j3, .int .i32 j4] 23)) := ((Below.refl _ W).alloc (Nat.le_refl _) _).alloc (by simp) _
  refine (awake_any _ (HT.out.later B0)).mono ?_
  rintro e w1 ⟨rfl, hb⟩
  have B1 : Hid (Below W.heap.size W w1) := Lib.hid (B0.trans (hb.mono (by simp; omega)))
  have z1 : W.heap.size + 2 ≤ w1.heap.size := by have := hb.size; simp at this; omega
  have a1 := keep0 hb (by simp; omega) (keep1 (by simp) (keepN W _ _))
  have c1 := keep0 hb (by simp) (keepN (W.alloc _) _ _)
  rw [World.size_alloc] at c1
  clear hb B0
  go_wp2_with fail
  refine (E1.out _ (HT.out.later B1.out)).mono ?_
  rintro e w2 ⟨rfl, hb⟩
  have B2 : Hid (Below W.heap.size W w2) := Lib.hid (B1.out.trans (hb.mono (by omega)))
  have z2 : W.heap.size + 2 ≤ w2.heap.size := by have := hb.size; omega
  have a2 := keep0 hb (by omega) a1
  have c2 := keep0 hb (by omega) c1
  have y2 : W.heap.size < w2.heap.size := by omega
  clear hb a1 c1
  go_wp2_with fail
  refine (E2.out _ (HT.out.later B2.out)).mono ?_
  rintro e w3 ⟨rfl, hb⟩
  have B3 : Hid (Below W.heap.size W w3) := Lib.hid (B2.out.trans (hb.mono (by omega)))
  have z3 : W.heap.size + 2 ≤ w3.heap.size := by have := hb.size; omega
  have a3 := keep0 hb (by omega) a2
  have c3 := keep0 hb (by omega) c2
  have y3 : W.heap.size < w3.heap.size := by omega
  clear hb a2 c2
  go_wp2_with fail
  refine (V1.out _ (HT.out.later B3.out)).mono ?_
  rintro e w4 ⟨rfl, hb⟩
  have B4 : Hid (Below W.heap.size W w4) := Lib.hid (B3.out.trans (hb.mono (by omega)))
  have z4 : W.heap.size + 2 ≤ w4.heap.size := by have := hb.size; omega
  have a4 := keep0 hb (by omega) a3
  have c4 := keep0 hb (by omega) c3
  have y4 : W.heap.size < w4.heap.size := by omega
  clear hb a3 c3
  go_wp2_with fail
  refine (V2.out _ (HT.out.later B4.out)).mono ?_
  rintro e w5 ⟨rfl, hb⟩
  have B5 : Hid (Below W.heap.size W w5) := Lib.hid (B4.out.trans (hb.mono (by omega)))
  have z5 : W.heap.size + 2 ≤ w5.heap.size := by have := hb.size; omega
  have a5 := keep0 hb (by omega) a4
  have c5 := keep0 hb (by omega) c4
  have y5 : W.heap.size < w5.heap.size := by omega
  clear hb a4 c4
  go_wp2_with fail
  refine (D1.out _ (HT.out.later B5.out)).mono ?_
  rintro e w6 ⟨rfl, hb⟩
  have B6 : Hid (Below W.heap.size W w6) := Lib.hid (B5.out.trans (hb.mono (by omega)))
  have z6 : W.heap.size + 2 ≤ w6.heap.size := by have := hb.size; omega
  have a6 := keep0 hb (by omega) a5
  have c6 := keep0 hb (by omega) c5
  have y6 : W.heap.size < w6.heap.size := by omega
  clear hb a5 c5
  go_wp2_with fail
  refine (D2.out _ (HT.out.later (B6.out.alloc (by omega) _))).mono ?_
  rintro e w7 ⟨rfl, hb⟩
  have B7 : Hid (Below W.heap.size W w7) := Lib.hid ((B6.out.alloc (by omega) _).trans (hb.mono (by simp; omega)))
  have z7 : W.heap.size + 2 ≤ w7.heap.size := by have := hb.size; simp at this; omega
  clear hb a6 c6
  go_wp2_with fail
  refine (E3.out _ (HT.out.later (B7.out.alloc (by omega) _))).mono ?_
  rintro e w8 ⟨rfl, hb⟩
  have B8 : Hid (Below W.heap.size W w8) := Lib.hid ((B7.out.alloc (by omega) _).trans (hb.mono (by simp; omega)))
  have z8 : w7.heap.size + 1 ≤ w8.heap.size := by have := hb.size; simp at this; omega
  have t8 := keep0 hb (by simp) (keepN w7 _ _)
  clear hb
  go_wp2_with fail
  refine (V3.out _ (HT.out.later B8.out)).mono ?_
  rintro e w9 ⟨rfl, hb⟩
  have B9 : Hid (Below W.heap.size W w9) := Lib.hid (B8.out.trans (hb.mono (by omega)))
  clear hb
  go_wp2_with fail
  go_ret
  exact ⟨by simp, B9.out⟩
set_option maxRecDepth 100000 in
set_option maxHeartbeats 4000000 in
theorem law2_no_false (i j : In) (w : Nat) (W : World) (hT : Tabs W) (hw : w < 2 ^ 32) (ri rj : Nat) (oj : Bool) (hri : encR i = ri) (hoi : vld i = false) (hrj : encR j = rj) (hoj : vld j = oj) (b : Bool) (hij : decide (i = j) = b) (hso : decOk w = false) :
    Calls Tryd.prog 4 #[i.v, j.v, .int .u32 (w : Int)] W fun e w' => e = .returned (.bool true) ∧ Below W.heap.size W w' := by
  have E1 := Lib.hid (fun W hT => encode_at i ri false W hT hri hoi)
  have E2 := Lib.hid (fun W hT => encode_at j rj oj W hT hrj hoj)
  have V1 := Lib.hid (fun W hT => valid_at i false W hT hoi)
  have V2 := Lib.hid (fun W hT => valid_at j oj W hT hoj)
  have Q := eqI_at i j b hij
  obtain ⟨k, hk⟩ : ∃ k, decR w = k := ⟨_, rfl⟩
  have D2 := Lib.hid (fun W hT => decode_at w k false W hT hw hk hso)
  obtain rfl : k = nilI := by rw [← hk]; exact no_part hso
  have Q3 := eqI_at nilI nilI true (by simp)
  clear hri hoi hrj hoj hw hij hso hk 
  obtain ⟨i0, i1, i2, i3, i4⟩ := i
  obtain ⟨j0, j1, j2, j3, j4⟩ := j

  simp only [In.v, nilI] at E1 E2 V1 V2 Q D2 Q3 ⊢
  have HT := Lib.hid hT
  clear hT
  go_enter Tryd.func4, Tryd.ntmps4
  go_wp2_with fail
  have B0 : Below W.heap.size W ((W.alloc (.cells #[.int .i64 i0, .int .i64 i1, .int .i64 i2, .int .i64 i3, .int .i32 i4] 23)).alloc (.cells #[.int .i64 j0, .int .i64 j1, .int .i64 j2, .int .i64 j3, .int .i32 j4] 23)) := ((Below.refl _ W).alloc (Nat.le_refl _) _).alloc (by simp) _
  refine (awake_any _ (HT.out.later B0)).mono ?_
  rintro e w1 ⟨rfl, hb⟩
  have B1 : Hid (Below W.heap.size W w1) := Lib.hid (B0.trans (hb.mono (by simp; omega)))
  have z1 : W.heap.size + 2 ≤ w1.heap.size := by have := hb.size; simp at this; omega
  have a1 := keep0 hb (by simp; omega) (keep1 (by simp) (keepN W _ _))
  have c1 := keep0 hb (by simp) (keepN (W.alloc _) _ _)
  rw [World.size_alloc] at c1
  clear hb B0
  go_wp2_with fail
  refine (E1.out _ (HT.out.later B1.out)).mono ?_
  rintro e w2 ⟨rfl, hb⟩
  have B2 : Hid (Below W.heap.size W w2) := Lib.hid (B1.out.trans (hb.mono (by omega)))
  have z2 : W.heap.size + 2 ≤ w2.heap.size := by have := hb.size; omega
  have a2 := keep0 hb (by omega) a1
  have c2 := keep0 hb (by omega) c1
  have y2 : W.heap.size < w2.heap.size := by omega
  clear hb a1 c1
  go_wp2_with fail
  refine (E2.out _ (HT.out.later B2.out)).mono ?_
  rintro e w3 ⟨rfl, hb⟩
  have B3 : Hid (Below W.heap.size W w3) := Lib.hid (B2.out.trans (hb.mono (by omega)))
  have z3 : W.heap.size + 2 ≤ w3.heap.size := by have := hb.size; omega
  have a3 := keep0 hb (by omega) a2
  have c3 := keep0 hb (by omega) c2
  have y3 : W.heap.size < w3.heap.size := by omega
  clear hb a2 c2
  go_wp2_with fail
  refine (V1.out _ (HT.out.later B3.out)).mono ?_
  rintro e w4 ⟨rfl, hb⟩
  have B4 : Hid (Below W.heap.size W w4) := Lib.hid (B3.out.trans (hb.mono (by omega)))
  have z4 : W.heap.size + 2 ≤ w4.heap.size := by have := hb.size; omega
  have a4 := keep0 hb (by omega) a3
  have c4 := keep0 hb (by omega) c3
  have y4 : W.heap.size < w4.heap.size := by omega
  clear hb a3 c3
  go_wp2_with fail
  refine (V2.out _ (HT.out.later B4.out)).mono ?_
  rintro e w5 ⟨rfl, hb⟩
  have B5 : Hid (Below W.heap.size W w5) := Lib.hid (B4.out.trans (hb.mono (by omega)))
  have z5 : W.heap.size + 2 ≤ w5.heap.size := by have := hb.size; omega
  have a5 := keep0 hb (by omega) a4
  have c5 := keep0 hb (by omega) c4
  have y5 : W.heap.size < w5.heap.size := by omega
  clear hb a4 c4
  go_wp2_with fail
  refine (D2.out _ (HT.out.later B5.out)).mono ?_
  rintro e w6 ⟨rfl, hb⟩
  have B6 : Hid (Below W.heap.size W w6) := Lib.hid (B5.out.trans (hb.mono (by omega)))
  have z6 : W.heap.size + 2 ≤ w6.heap.size := by have := hb.size; omega
  clear hb a5 c5
  go_wp2_with fail
  go_ret
  exact ⟨by simp, B6.out.alloc (by omega) _⟩
set_option maxRecDepth 100000 in
set_option maxHeartbeats 4000000 in
theorem law2_one_false (i j : In) (w : Nat) (W : World) (hT : Tabs W) (hw : w < 2 ^ 32) (ri rj : Nat) (hri : encR i = ri) (hoi : vld i = true) (hrj : encR j = rj) (hoj : vld j = false) (b : Bool) (hij : decide (i = j) = b) (hso : decOk w = false) :
    Calls Tryd.prog 4 #[i.v, j.v, .int .u32 (w : Int)] W fun e w' => e = .returned (.bool true) ∧ Below W.heap.size W w' := by
  have E1 := Lib.hid (fun W hT => encode_at i ri true W hT hri hoi)
  have E2 := Lib.hid (fun W hT => encode_at j rj false W hT hrj hoj)
  have V1 := Lib.hid (fun W hT => valid_at i true W hT hoi)
  have V2 := Lib.hid (fun W hT => valid_at j false W hT hoj)
  have Q := eqI_at i j b hij
  obtain ⟨k, hk⟩ : ∃ k, decR w = k := ⟨_, rfl⟩
  have D2 := Lib.hid (fun W hT => decode_at w k false W hT hw hk hso)
  have hre : ri = encW i := by rw [← hri]; unfold encR; rw [if_pos hoi]
  have hrl : ri < 2 ^ 32 := by rw [hre]; exact encW_lt hoi
  have D1 := Lib.hid (fun W hT => decode_at ri i true W hT hrl (by rw [hre]; exact dec_r hoi) (by rw [hre]; exact dec_ok hoi))
  have Q1 := eqI_at i i true (by simp)
  obtain rfl : k = nilI := by rw [← hk]; exact no_part hso
  have Q3 := eqI_at nilI nilI true (by simp)
  clear hri hoi hrj hoj hw hij hso hk hre hrl 
  obtain ⟨i0, i1, i2, i3, i4⟩ := i
  obtain ⟨j0, j1, j2, j3, j4⟩ := j

  simp only [In.v, nilI] at E1 E2 V1 V2 Q D2 D1 Q1 Q3 ⊢
  have HT := Lib.hid hT
  clear hT
  go_enter Tryd.func4, Tryd.ntmps4
  go_wp2_with fail
  have B0 : Below W.heap.size W ((W.alloc (.cells #[.int .i64 i0, .int .i64 i1, .int .i64 i2, .int .i64 i3, .int .i32 i4] 23)).alloc (.cells #[.int .i64 j0, .int .i64 j1, .int .i64 j2, .int .i64 j3, .int .i32 j4] 23)) := ((Below.refl _ W).alloc (Nat.le_refl _) _).alloc (by simp) _
  refine (awake_any _ (HT.out.later B0)).mono ?_
  rintro e w1 ⟨rfl, hb⟩
  have B1 : Hid (Below W.heap.size W w1) := Lib.hid (B0.trans (hb.mono (by simp; omega)))
  have z1 : W.heap.size + 2 ≤ w1.heap.size := by have := hb.size; simp at this; omega
  have a1 := keep0 hb (by simp; omega) (keep1 (by simp) (keepN W _ _))
  have c1 := keep0 hb (by simp) (keepN (W.alloc _) _ _)
  rw [World.size_alloc] at c1
  clear hb B0
  go_wp2_with fail
  refine (E1.out _ (HT.out.later B1.out)).mono ?_
  rintro e w2 ⟨rfl, hb⟩
  have B2 : Hid (Below W.heap.size W w2) := Lib.hid (B1.out.trans (hb.mono (by omega)))
  have z2 : W.heap.size + 2 ≤ w2.heap.size := by have := hb.size; omega
  have a2 := keep0 hb (by omega) a1
  have c2 := keep0 hb (by omega) c1
  have y2 : W.heap.size < w2.heap.size := by omega
  clear hb a1 c1
  go_wp2_with fail
  refine (E2.out _ (HT.out.later B2.out)).mono ?_
  rintro e w3 ⟨rfl, hb⟩
  have B3 : Hid (Below W.heap.size W w3) := Lib.hid (B2.out.trans (hb.mono (by omega)))
  have z3 : W.heap.size + 2 ≤ w3.heap.size := by have := hb.size; omega
  have a3 := keep0 hb (by omega) a2
  have c3 := keep0 hb (by omega) c2
  have y3 : W.heap.size < w3.heap.size := by omega
  clear hb a2 c2
  go_wp2_with fail
  refine (V1.out _ (HT.out.later B3.out)).mono ?_
  rintro e w4 ⟨rfl, hb⟩
  have B4 : Hid (Below W.heap.size W w4) := Lib.hid (B3.out.trans (hb.mono (by omega)))
  have z4 : W.heap.size + 2 ≤ w4.heap.size := by have := hb.size; omega
  have a4 := keep0 hb (by omega) a3
  have c4 := keep0 hb (by omega) c3
  have y4 : W.heap.size < w4.heap.size := by omega
  clear hb a3 c3
  go_wp2_with fail
  refine (V2.out _ (HT.out.later B4.out)).mono ?_
  rintro e w5 ⟨rfl, hb⟩
  have B5 : Hid (Below W.heap.size W w5) := Lib.hid (B4.out.trans (hb.mono (by omega)))
  have z5 : W.heap.size + 2 ≤ w5.heap.size := by have := hb.size; omega
  have a5 := keep0 hb (by omega) a4
  have c5 := keep0 hb (by omega) c4
  have y5 : W.heap.size < w5.heap.size := by omega
  clear hb a4 c4
  go_wp2_with fail
  refine (D1.out _ (HT.out.later B5.out)).mono ?_
  rintro e w6 ⟨rfl, hb⟩
  have B6 : Hid (Below W.heap.size W w6) := Lib.hid (B5.out.trans (hb.mono (by omega)))
  have z6 : W.heap.size + 2 ≤ w6.heap.size := by have := hb.size; omega
  have a6 := keep0 hb (by omega) a5
  have c6 := keep0 hb (by omega) c5
  have y6 : W.heap.size < w6.heap.size := by omega
  clear hb a5 c5
  go_wp2_with fail
  refine (D2.out _ (HT.out.later (B6.out.alloc (by omega) _))).mono ?_
  rintro e w7 ⟨rfl, hb⟩
  have B7 : Hid (Below W.heap.size W w7) := Lib.hid ((B6.out.alloc (by omega) _).trans (hb.mono (by simp; omega)))
  have z7 : W.heap.size + 2 ≤ w7.heap.size := by have := hb.size; simp at this; omega
  clear hb a6 c6
  go_wp2_with fail
  go_ret
  exact ⟨by simp, B7.out.alloc (by omega) _⟩
set_option maxRecDepth 100000 in
set_option maxHeartbeats 4000000 in
theorem law2_two_false (i j : In) (w : Nat) (W : World) (hT : Tabs W) (hw : w < 2 ^ 32) (ri rj : Nat) (hri : encR i = ri) (hoi : vld i = true) (hrj : encR j = rj) (hoj : vld j = true) (b : Bool) (hij : decide (i = j) = b) (hq : (((ri : Int) == (rj : Int)) == b) = true) (hso : decOk w = false) :
    Calls Tryd.prog 4 #[i.v, j.v, .int .u32 (w : Int)] W fun e w' => e = .returned (.bool true) ∧ Below W.heap.size W w' := by
  have E1 := Lib.hid (fun W hT => encode_at i ri true W hT hri hoi)
  have E2 := Lib.hid (fun W hT => encode_at j rj true W hT hrj hoj)
  have V1 := Lib.hid (fun W hT => valid_at i true W hT hoi)
  have V2 := Lib.hid (fun W hT => valid_at j true W hT hoj)
  have Q := eqI_at i j b hij
  obtain ⟨k, hk⟩ : ∃ k, decR w = k := ⟨_, rfl⟩
  have D2 := Lib.hid (fun W hT => decode_at w k false W hT hw hk hso)
  have hre : ri = encW i := by rw [← hri]; unfold encR; rw [if_pos hoi]
  have hrl : ri < 2 ^ 32 := by rw [hre]; exact encW_lt hoi
  have D1 := Lib.hid (fun W hT => decode_at ri i true W hT hrl (by rw [hre]; exact dec_r hoi) (by rw [hre]; exact dec_ok hoi))
  have Q1 := eqI_at i i true (by simp)
  obtain rfl : k = nilI := by rw [← hk]; exact no_part hso
  have Q3 := eqI_at nilI nilI true (by simp)
  clear hri hoi hrj hoj hw hij hso hk hre hrl 
  obtain ⟨i0, i1, i2, i3, i4⟩ := i
  obtain ⟨j0, j1, j2, j3, j4⟩ := j

  simp only [In.v, nilI] at E1 E2 V1 V2 Q D2 D1 Q1 Q3 ⊢
  have HT := Lib.hid hT
  clear hT
  go_enter Tryd.func4, Tryd.ntmps4
  go_wp2_with fail
  have B0 : Below W.heap.size W ((W.alloc (.cells #[.int .i64 i0, .int .i64 i1, .int .i64 i2, .int .i64 i3, .int .i32 i4] 23)).alloc (.cells #[.int .i64 j0, .int .i64 j1, .int .i64 j2, .int .i64 j3, .int .i32 j4] 23)) := ((Below.refl _ W).alloc (Nat.le_refl _) _).alloc (by simp) _
  refine (awake_any _ (HT.out.later B0)).mono ?_
  rintro e w1 ⟨rfl, hb⟩
  have B1 : Hid (Below W.heap.size W w1) := Lib.hid (B0.trans (hb.mono (by simp; omega)))
  have z1 : W.heap.size + 2 ≤ w1.heap.size := by have := hb.size; simp at this; omega
  have a1 := keep0 hb (by simp; omega) (keep1 (by simp) (keepN W _ _))
  have c1 := keep0 hb (by simp) (keepN (W.alloc _) _ _)
  rw [World.size_alloc] at c1
  clear hb B0
  go_wp2_with fail
  refine (E1.out _ (HT.out.later B1.out)).mono ?_
  rintro e w2 ⟨rfl, hb⟩
  have B2 : Hid (Below W.heap.size W w2) := Lib.hid (B1.out.trans (hb.mono (by omega)))
  have z2 : W.heap.size + 2 ≤ w2.heap.size := by have := hb.size; omega
  have a2 := keep0 hb (by omega) a1
  have c2 := keep0 hb (by omega) c1
  have y2 : W.heap.size < w2.heap.size := by omega
  clear hb a1 c1
  go_wp2_with fail
  refine (E2.out _ (HT.out.later B2.out)).mono ?_
  rintro e w3 ⟨rfl, hb⟩
  have B3 : Hid (Below W.heap.size W w3) := Lib.hid (B2.out.trans (hb.mono (by omega)))
  have z3 : W.heap.size + 2 ≤ w3.heap.size := by have := hb.size; omega
  have a3 := keep0 hb (by omega) a2
  have c3 := keep0 hb (by omega) c2
  have y3 : W.heap.size < w3.heap.size := by omega
  clear hb a2 c2
  go_wp2_with fail
  refine (V1.out _ (HT.out.later B3.out)).mono ?_
  rintro e w4 ⟨rfl, hb⟩
  have B4 : Hid (Below W.heap.size W w4) := Lib.hid (B3.out.trans (hb.mono (by omega)))
  have z4 : W.heap.size + 2 ≤ w4.heap.size := by have := hb.size; omega
  have a4 := keep0 hb (by omega) a3
  have c4 := keep0 hb (by omega) c3
  have y4 : W.heap.size < w4.heap.size := by omega
  clear hb a3 c3
  go_wp2_with fail
  refine (V2.out _ (HT.out.later B4.out)).mono ?_
  rintro e w5 ⟨rfl, hb⟩
  have B5 : Hid (Below W.heap.size W w5) := Lib.hid (B4.out.trans (hb.mono (by omega)))
  have z5 : W.heap.size + 2 ≤ w5.heap.size := by have := hb.size; omega
  have a5 := keep0 hb (by omega) a4
  have c5 := keep0 hb (by omega) c4
  have y5 : W.heap.size < w5.heap.size := by omega
  clear hb a4 c4
  go_wp2_with fail
  refine (D1.out _ (HT.out.later B5.out)).mono ?_
  rintro e w6 ⟨rfl, hb⟩
  have B6 : Hid (Below W.heap.size W w6) := Lib.hid (B5.out.trans (hb.mono (by omega)))
  have z6 : W.heap.size + 2 ≤ w6.heap.size := by have := hb.size; omega
  have a6 := keep0 hb (by omega) a5
  have c6 := keep0 hb (by omega) c5
  have y6 : W.heap.size < w6.heap.size := by omega
  clear hb a5 c5
  go_wp2_with fail
  refine (D2.out _ (HT.out.later (B6.out.alloc (by omega) _))).mono ?_
  rintro e w7 ⟨rfl, hb⟩
  have B7 : Hid (Below W.heap.size W w7) := Lib.hid ((B6.out.alloc (by omega) _).trans (hb.mono (by simp; omega)))
  have z7 : W.heap.size + 2 ≤ w7.heap.size := by have := hb.size; simp at this; omega
  clear hb a6 c6
  go_wp2_with fail
  go_ret
  exact ⟨by simp, B7.out.alloc (by omega) _⟩
theorem law2 (i j : In) (w : Nat) (_hi : small i.imm) (_hj : small j.imm) (hw : w < 2 ^ 32) (W : World) (hT : Tabs W) :
    Calls Tryd.prog 4 #[i.v, j.v, .int .u32 (w : Int)] W fun e w' => e = .returned (.bool true) ∧ Below W.heap.size W w' := by
  have hq : vld i = true → vld j = true → (((encR i : Nat) : Int) == ((encR j : Nat) : Int)) = decide (i = j) := fun h1 h2 => by
    unfold encR
    rw [if_pos h1, if_pos h2, Bool.eq_iff_iff, beq_iff_eq, decide_eq_true_iff]
    constructor
    · intro h; exact enc_inj h1 h2 (by omega)
    · intro h; rw [h]
  cases hso : decOk w with
  | true =>
    cases hoi : vld i with
    | false => exact law2_no_true i j w W hT hw _ _ _ rfl hoi rfl rfl _ rfl hso
    | true =>
      cases hoj : vld j with
      | false => exact law2_one_true i j w W hT hw _ _ rfl hoi rfl hoj _ rfl hso
      | true => exact law2_two_true i j w W hT hw _ _ rfl hoi rfl hoj _ rfl (by rw [hq hoi hoj]; simp) hso
  | false =>
    cases hoi : vld i with
    | false => exact law2_no_false i j w W hT hw _ _ _ rfl hoi rfl rfl _ rfl hso
    | true =>
      cases hoj : vld j with
      | false => exact law2_one_false i j w W hT hw _ _ rfl hoi rfl hoj _ rfl hso
      | true => exact law2_two_false i j w W hT hw _ _ rfl hoi rfl hoj _ rfl (by rw [hq hoi hoj]; simp) hso
end Go.Proofs.YtpajnomngjllpaaDoor.Isa
