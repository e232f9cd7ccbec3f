/- The law IsaFieldsAreIndependent, walked. -/
import Derived.Test.YtpajnomngjllpaaDoorIsaP
namespace Go.Proofs.YtpajnomngjllpaaDoor.Isa
open Go Go.RowKit Go.Proofs.YtpajnomngjllpaaDoor.PIsaUnusedBitsMustBeZero Go.Proofs.YtpajnomngjllpaaDoorW.PrintWords Go.Proofs.YtpajnomngjllpaaDoorW.PrintLast Go.Proofs.YtpajnomngjllpaaDoorW.PrintMore Go.Proofs.YtpajnomngjllpaaDoor.Bm
set_option linter.unusedVariables false
set_option linter.unusedSimpArgs false
/-- The two exchanges. -/
theorem exch_rd {i j : In} (hi : vld i = true) (hj : vld j = true) (ho : i.op = j.op) : vld { i with rd := j.rd } = true := by
  obtain ⟨i0, i1, i2, i3, i4⟩ := i
  obtain ⟨j0, j1, j2, j3, j4⟩ := j
  dsimp only at ho
  subst ho
  unfold vld at *
  dsimp only at *
  simp only [Bool.and_eq_true] at *
  exact ⟨hi.1, hi.2.1, hj.2.2.1, hi.2.2.2⟩
theorem exch_im {i j : In} (hi : vld i = true) (hj : vld j = true) (ho : i.op = j.op) : vld { i with rb := j.rb, imm := j.imm } = true := by
  obtain ⟨i0, i1, i2, i3, i4⟩ := i
  obtain ⟨j0, j1, j2, j3, j4⟩ := j
  dsimp only at ho
  subst ho
  unfold vld at *
  dsimp only at *
  simp only [Bool.and_eq_true] at *
  exact ⟨hi.1, hj.2.1, hi.2.2.1, hi.2.2.2.1, hj.2.2.2.2⟩
theorem sum_rd (i j : In) : encW i + encW j = encW { i with rd := j.rd } + encW { j with rd := i.rd } := by unfold encW; dsimp only; omega
theorem sum_im (i j : In) : encW i + encW j = encW { i with rb := j.rb, imm := j.imm } + encW { j with rb := i.rb, imm := i.imm } := by unfold encW; dsimp only; omega
theorem enc_op {i : In} (h : vld i = true) : encW i / 67108864 = i.op.toNat := by
  have := vld_bounds h
  have := lowrb_lt h
  unfold encW; omega
set_option maxRecDepth 100000 in
set_option maxHeartbeats 4000000 in
theorem law5_main (i j : In) (hx : small i.imm) (hy : small j.imm) (W : World) (hT : Tabs W) (hi : vld i = true) (hj : vld j = true) (ho : i.op = j.op) :
    Calls Tryd.prog 7 #[i.v, j.v] W fun e w' => e = .returned (.bool true) ∧ Below W.heap.size W w' := by
  have M1 := Lib.hid (fun W => may_at i true W hx hi)
  have M2 := Lib.hid (fun W => may_at j true W hy hj)
  have enc : ∀ k : In, vld k = true → ∀ n, encW k = n → ∀ W, Tabs W → Calls Tryd.prog 9 #[k.v] W fun e w' => e = .returned (.tuple #[.int .u32 (n : Int), .bool true]) ∧ Below W.heap.size W w' :=
    fun k hk n hn W hT => encode_at k n true W hT (by unfold encR; rw [if_pos hk]; exact hn) hk
  obtain ⟨a, ha⟩ : ∃ a, encW i = a := ⟨_, rfl⟩
  obtain ⟨b, hb⟩ : ∃ a, encW j = a := ⟨_, rfl⟩
  obtain ⟨c, hc⟩ : ∃ a, encW { i with rd := j.rd } = a := ⟨_, rfl⟩
  obtain ⟨d, hd⟩ : ∃ a, encW { j with rd := i.rd } = a := ⟨_, rfl⟩
  obtain ⟨e, he⟩ : ∃ a, encW { i with rb := j.rb, imm := j.imm } = a := ⟨_, rfl⟩
  obtain ⟨f, hf⟩ : ∃ a, encW { j with rb := i.rb, imm := i.imm } = a := ⟨_, rfl⟩
  have E1 := Lib.hid (enc _ hi a ha)
  have E2 := Lib.hid (enc _ hj b hb)
  have E3 := Lib.hid (enc _ (exch_rd hi hj ho) c hc)
  have E4 := Lib.hid (enc _ (exch_rd hj hi ho.symm) d hd)
  have E5 := Lib.hid (enc _ (exch_im hi hj ho) e he)
  have E6 := Lib.hid (enc _ (exch_im hj hi ho.symm) f hf)
  have s1 : a + b = c + d := by rw [← ha, ← hb, ← hc, ← hd]; exact sum_rd i j
  have s2 : a + b = e + f := by rw [← ha, ← hb, ← he, ← hf]; exact sum_im i j
  have s3 : ((a : Int) / 67108864) = i.op := by
    have h1 := enc_op hi
    have h2 := vld_bounds hi
    rw [ha] at h1
    omega
  have s4 : 0 ≤ i.op ∧ i.op < 26 := by have h2 := vld_bounds hi; omega
  have la : a < 2 ^ 32 := by rw [← ha]; exact encW_lt hi
  have lb : b < 2 ^ 32 := by rw [← hb]; exact encW_lt hj
  have lc : c < 2 ^ 32 := by rw [← hc]; exact encW_lt (exch_rd hi hj ho)
  have ld : d < 2 ^ 32 := by rw [← hd]; exact encW_lt (exch_rd hj hi ho.symm)
  have le : e < 2 ^ 32 := by rw [← he]; exact encW_lt (exch_im hi hj ho)
  have lf : f < 2 ^ 32 := by rw [← hf]; exact encW_lt (exch_im hj hi ho.symm)
  have t1 : (IntKind.u32.wrap ((a : Int) + b) == IntKind.u32.wrap ((c : Int) + d)) = true := by rw [beq_iff_eq]; congr 1; omega
  have t2 : (IntKind.u32.wrap ((a : Int) + b) == IntKind.u32.wrap ((e : Int) + f)) = true := by rw [beq_iff_eq]; congr 1; omega
  have t3 : IntKind.u32.wrap i.op = i.op := by rw [IntKind.wrap_u32]; omega
  have t4 : IntKind.u32.wrap (i.op * 67108864) = i.op * 67108864 := by rw [IntKind.wrap_u32]; omega
  have t5 : IntKind.u32.wrap ((a : Int) - i.op * 67108864) = (a : Int) - i.op * 67108864 := by rw [IntKind.wrap_u32]; omega
  have t6 : ((a : Int) / 67108864 == i.op) = true := by rw [beq_iff_eq]; exact s3
  have t7 : ((a : Int) % 67108864 == (a : Int) - i.op * 67108864) = true := by rw [beq_iff_eq]; omega
  clear ha hb hc hd he hf enc hi hj hx hy
  obtain ⟨i0, i1, i2, i3, i4⟩ := i
  obtain ⟨j0, j1, j2, j3, j4⟩ := j
  simp only [In.v] at ho s3 s4 t3 t4 t5 t6 t7 M1 M2 E1 E2 E3 E4 E5 E6 ⊢
  subst ho
  have HT := Lib.hid hT
  clear hT
  go_enter Tryd.func7, Tryd.ntmps7
  go_wp2_with fail
  have B0 : Below W.heap.size W ((W.alloc (.cells #[.int .i64 i0, .int .i64 i1, .int .i64 i2, .int .i64 i3, .int .i32 i4] 23)).alloc (.cells #[.int .i64 i0, .int .i64 j1, .int .i64 j2, .int .i64 j3, .int .i32 j4] 23)) := ((Below.refl _ W).alloc (Nat.le_refl _) _).alloc (by simp) _
  refine (awake_any _ (HT.out.later B0)).mono ?_
  rintro e w1 ⟨rfl, hb⟩
  have B1 : Hid (Below W.heap.size W w1) := Lib.hid (B0.trans (hb.mono (by simp; omega)))
  have z1 : W.heap.size + 2 ≤ w1.heap.size := by have := hb.size; simp at this; omega
  have a1 := keep0 hb (by simp; omega) (keep1 (by simp) (keepN W _ _))
  have c1 := keep0 hb (by simp) (keepN (W.alloc _) _ _)
  rw [World.size_alloc] at c1
  clear hb B0
  go_wp2_with fail
  refine (M1.out _).mono ?_
  rintro e w2 ⟨rfl, hb⟩
  have B2 : Hid (Below W.heap.size W w2) := Lib.hid (B1.out.trans (hb.mono (by omega)))
  have z2 : W.heap.size + 2 ≤ w2.heap.size := by have := hb.size; omega
  have a2 := keep0 hb (by omega) a1
  have c2 := keep0 hb (by omega) c1
  clear hb a1 c1
  go_wp2_with fail
  refine (M2.out _).mono ?_
  rintro e w3 ⟨rfl, hb⟩
  have B3 : Hid (Below W.heap.size W w3) := Lib.hid (B2.out.trans (hb.mono (by omega)))
  have z3 : W.heap.size + 2 ≤ w3.heap.size := by have := hb.size; omega
  have a3 := keep0 hb (by omega) a2
  have c3 := keep0 hb (by omega) c2
  have y3 : W.heap.size < w3.heap.size := by omega
  have y3' : W.heap.size + 1 < w3.heap.size := by omega
  have y3a : W.heap.size < w3.heap.size + 1 := by omega
  have y3b : W.heap.size < w3.heap.size + 1 + 1 := by omega
  have y3c : W.heap.size < w3.heap.size + 1 + 1 + 1 := by omega
  have y3d : W.heap.size + 1 < w3.heap.size + 1 + 1 + 1 := by omega
  have y3e : W.heap.size + 1 < w3.heap.size + 1 + 1 := by omega
  have y3f : W.heap.size + 1 < w3.heap.size + 1 := by omega
  clear hb a2 c2
  go_wp2_with fail
  have BX : Below W.heap.size W ((((w3.alloc (.cells #[.int .i64 i0, .int .i64 j1, .int .i64 i2, .int .i64 i3, .int .i32 i4] 23)).alloc (.cells #[.int .i64 i0, .int .i64 i1, .int .i64 j2, .int .i64 j3, .int .i32 j4] 23)).alloc (.cells #[.int .i64 i0, .int .i64 i1, .int .i64 i2, .int .i64 j3, .int .i32 j4] 23)).alloc (.cells #[.int .i64 i0, .int .i64 j1, .int .i64 j2, .int .i64 i3, .int .i32 i4] 23)) := (((B3.out.alloc (by omega) _).alloc (by simp; omega) _).alloc (by simp; omega) _).alloc (by simp; omega) _
  refine (E1.out _ (HT.out.later BX)).mono ?_
  rintro e w4 ⟨rfl, hb⟩
  have B4 : Hid (Below W.heap.size W w4) := Lib.hid (BX.trans (hb.mono (by simp; omega)))
  obtain ⟨s, hs⟩ : ∃ s, w3.heap.size = s := ⟨_, rfl⟩
  have z4 : s + 4 ≤ w4.heap.size := by have := hb.size; simp at this; omega
  have c4 := keep0 hb (by simp; omega) (keep1 (by simp; omega) (keep1 (by simp; omega) (keep1 (by simp; omega) (keep1 (by omega) c3))))
  have x4 := keep0 hb (by first | (simp; done) | (simp; omega)) (keep1 (by first | (simp; done) | (simp; omega)) (keep1 (by first | (simp; done) | (simp; omega)) (keep1 (by simp) (keepN w3 _ _))))
  have p4 := keep0 hb (by first | (simp; done) | (simp; omega)) (keep1 (by first | (simp; done) | (simp; omega)) (keep1 (by simp) (keepN (w3.alloc _) _ _)))
  have u4 := keep0 hb (by first | (simp; done) | (simp; omega)) (keep1 (by first | (simp; done) | (simp; omega)) (keepN ((w3.alloc _).alloc _) _ _))
  have v4 := keep0 hb (by simp) (keepN (((w3.alloc _).alloc _).alloc _) _ _)
  simp only [World.size_alloc, hs] at x4 p4 u4 v4 ⊢
  have a4 := keep0 hb (by simp; omega) (keep1 (by simp; omega) (keep1 (by simp; omega) (keep1 (by simp; omega) (keep1 (by omega) a3))))
  clear hb BX a3 c3
  have y4a : W.heap.size < w4.heap.size := by omega
  have y4b : W.heap.size + 1 < w4.heap.size := by omega
  go_wp2_with fail
  refine (E2.out _ (HT.out.later B4.out)).mono ?_
  rintro e w5 ⟨rfl, hb⟩
  have B5 : Hid (Below W.heap.size W w5) := Lib.hid (B4.out.trans (hb.mono (by omega)))
  have z5 : s + 4 ≤ w5.heap.size := by have := hb.size; omega
  have x5 := keep0 hb (by omega) x4
  have p5 := keep0 hb (by omega) p4
  have u5 := keep0 hb (by omega) u4
  have v5 := keep0 hb (by omega) v4
  have a5 := keep0 hb (by omega) a4
  clear hb a4 c4 x4 p4 u4 v4
  go_wp2_with fail
  refine (E3.out _ (HT.out.later B5.out)).mono ?_
  rintro e w6 ⟨rfl, hb⟩
  have B6 : Hid (Below W.heap.size W w6) := Lib.hid (B5.out.trans (hb.mono (by omega)))
  have z6 : s + 4 ≤ w6.heap.size := by have := hb.size; omega
  have p6 := keep0 hb (by omega) p5
  have u6 := keep0 hb (by omega) u5
  have v6 := keep0 hb (by omega) v5
  have a6 := keep0 hb (by omega) a5
  clear hb a5 x5 p5 u5 v5
  go_wp2_with fail
  refine (E4.out _ (HT.out.later B6.out)).mono ?_
  rintro e w7 ⟨rfl, hb⟩
  have B7 : Hid (Below W.heap.size W w7) := Lib.hid (B6.out.trans (hb.mono (by omega)))
  have z7 : s + 4 ≤ w7.heap.size := by have := hb.size; omega
  have u7 := keep0 hb (by omega) u6
  have v7 := keep0 hb (by omega) v6
  have a7 := keep0 hb (by omega) a6
  clear hb a6 p6 u6 v6
  go_wp2_with fail
  refine (E5.out _ (HT.out.later B7.out)).mono ?_
  rintro e w8 ⟨rfl, hb⟩
  have B8 : Hid (Below W.heap.size W w8) := Lib.hid (B7.out.trans (hb.mono (by omega)))
  have z8 : s + 4 ≤ w8.heap.size := by have := hb.size; omega
  have v8 := keep0 hb (by omega) v7
  have a8 := keep0 hb (by omega) a7
  clear hb a7 u7 v7
  go_wp2_with fail
  refine (E6.out _ (HT.out.later B8.out)).mono ?_
  rintro e w9 ⟨rfl, hb⟩
  have B9 : Hid (Below W.heap.size W w9) := Lib.hid (B8.out.trans (hb.mono (by omega)))
  have z9 : s + 4 ≤ w9.heap.size := by have := hb.size; omega
  have a9 := keep0 hb (by omega) a8
  clear hb a8 v8
  have y9 : W.heap.size < w9.heap.size := by omega
  clear HT
  go_wp2
  all_goals
    go_ret
    exact ⟨by first | rfl | (simp; omega), B9.out⟩
set_option maxRecDepth 100000 in
set_option maxHeartbeats 4000000 in
theorem law5_not (i j : In) (hx : small i.imm) (hy : small j.imm) (W : World) (hT : Tabs W) (bi bj : Bool) (hi : vld i = bi) (hj : vld j = bj) (b : Bool) (hb : (i.op == j.op) = b) (hn : (bi && (bj && b)) = false) :
    Calls Tryd.prog 7 #[i.v, j.v] W fun e w' => e = .returned (.bool true) ∧ Below W.heap.size W w' := by
  have M1 := Lib.hid (fun W => may_at i bi W hx hi)
  have M2 := Lib.hid (fun W => may_at j bj W hy hj)
  clear hi hj hx hy
  obtain ⟨i0, i1, i2, i3, i4⟩ := i
  obtain ⟨j0, j1, j2, j3, j4⟩ := j
  simp only [In.v] at hb M1 M2 ⊢
  have hc : (i0 != j0) = !b := by rw [bne, hb]
  have HT := Lib.hid hT
  clear hT
  go_enter Tryd.func7, Tryd.ntmps7
  go_wp2_with fail
  have B0 : Below W.heap.size W ((W.alloc (.cells #[.int .i64 i0, .int .i64 i1, .int .i64 i2, .int .i64 i3, .int .i32 i4] 23)).alloc (.cells #[.int .i64 j0, .int .i64 j1, .int .i64 j2, .int .i64 j3, .int .i32 j4] 23)) := ((Below.refl _ W).alloc (Nat.le_refl _) _).alloc (by simp) _
  refine (awake_any _ (HT.out.later B0)).mono ?_
  rintro e w1 ⟨rfl, hd⟩
  have B1 : Hid (Below W.heap.size W w1) := Lib.hid (B0.trans (hd.mono (by simp; omega)))
  have z1 : W.heap.size + 2 ≤ w1.heap.size := by have := hd.size; simp at this; omega
  have a1 := keep0 hd (by simp; omega) (keep1 (by simp) (keepN W _ _))
  have c1 := keep0 hd (by simp) (keepN (W.alloc _) _ _)
  rw [World.size_alloc] at c1
  clear hd B0
  go_wp2_with fail
  refine (M1.out _).mono ?_
  rintro e w2 ⟨rfl, hd⟩
  have B2 : Hid (Below W.heap.size W w2) := Lib.hid (B1.out.trans (hd.mono (by omega)))
  have z2 : W.heap.size + 2 ≤ w2.heap.size := by have := hd.size; omega
  have a2 := keep0 hd (by omega) a1
  have c2 := keep0 hd (by omega) c1
  clear hd a1 c1
  cases bi
  · go_wp2_with fail
    refine (awake_any _ (HT.out.later B2.out)).mono ?_
    rintro e w3 ⟨rfl, hd⟩
    have B3 : Hid (Below W.heap.size W w3) := Lib.hid (B2.out.trans (hd.mono (by omega)))
    clear hd
    go_wp2
    go_ret
    exact ⟨rfl, B3.out⟩
  · go_wp2_with fail
    refine (M2.out _).mono ?_
    rintro e w3 ⟨rfl, hd⟩
    have B3 : Hid (Below W.heap.size W w3) := Lib.hid (B2.out.trans (hd.mono (by omega)))
    have z3 : W.heap.size + 2 ≤ w3.heap.size := by have := hd.size; omega
    have a3 := keep0 hd (by omega) a2
    have c3 := keep0 hd (by omega) c2
    have y3 : W.heap.size < w3.heap.size := by omega
    have y3' : W.heap.size + 1 < w3.heap.size := by omega
    clear hd a2 c2
    cases bj
    · go_wp2_with fail
      refine (awake_any _ (HT.out.later B3.out)).mono ?_
      rintro e w4 ⟨rfl, hd⟩
      have B4 : Hid (Below W.heap.size W w4) := Lib.hid (B3.out.trans (hd.mono (by omega)))
      clear hd
      go_wp2
      go_ret
      exact ⟨rfl, B4.out⟩
    · obtain rfl : b = false := by simpa using hn
      have hd : decide (i0 = j0) = false := decide_eq_false (fun e => by simp [e] at hb)
      go_wp2_with fail
      refine (awake_any _ (HT.out.later B3.out)).mono ?_
      rintro e w4 ⟨rfl, hd⟩
      have B4 : Hid (Below W.heap.size W w4) := Lib.hid (B3.out.trans (hd.mono (by omega)))
      clear hd
      go_wp2
      go_ret
      exact ⟨rfl, B4.out⟩
theorem law5 (i j : In) (hx : small i.imm) (hy : small j.imm) (W : World) (hT : Tabs W) :
    Calls Tryd.prog 7 #[i.v, j.v] W fun e w' => e = .returned (.bool true) ∧ Below W.heap.size W w' := by
  by_cases h : vld i = true ∧ vld j = true ∧ i.op = j.op
  · exact law5_main i j hx hy W hT h.1 h.2.1 h.2.2
  · refine law5_not i j hx hy W hT _ _ rfl rfl _ rfl ?_
    rw [← Bool.not_eq_true]
    intro e
    simp only [Bool.and_eq_true, beq_iff_eq] at e
    exact h e
end Go.Proofs.YtpajnomngjllpaaDoor.Isa
