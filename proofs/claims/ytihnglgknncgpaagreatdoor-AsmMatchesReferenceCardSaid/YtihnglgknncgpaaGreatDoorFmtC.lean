/- asm.Format at an instruction of a register and a number, walked. asm.Format at an instruction of two registers and a number, walked. -/
import Derived.Test.YtihnglgknncgpaaGreatDoorFmtB
import Derived.RangeFuncBox
namespace Go.Proofs.YtihnglgknncgpaaGreatDoor.Asm
open Go Go.RowKit Go.Proofs.YtihnglgknncgpaaGreatDoor.PAsmEveryWordHasOneLine Go.Proofs.YtihnglgknncgpaaGreatDoorW.PrintWords Go.Proofs.YtihnglgknncgpaaGreatDoorW.PrintLast Go.Proofs.YtihnglgknncgpaaGreatDoorW.PrintMore Go.Proofs.YtihnglgknncgpaaGreatDoor.Bm Go.Proofs.YtihnglgknncgpaaGreatDoor.Isa
set_option linter.unusedVariables false
set_option linter.unusedSimpArgs false
theorem imm_bounds {i : In} (h : vld i = true) : -131072 ≤ i.imm ∧ i.imm < 131072 := by
  obtain ⟨_, h1, _⟩ := vld_parts h
  unfold numOk at h1
  have e : ((2 ^ (18 - 1) : Nat) : Int) = 131072 := by decide
  simp only [Bool.or_eq_true, Bool.and_eq_true, beq_iff_eq, decide_eq_true_eq, fits, e] at h1
  omega
theorem nd_le : ∀ k u : Nat, u < 10 ^ (k + 1) → Lib.nDigits u ≤ k + 1
  | 0, u, h => by rw [Lib.nDigits_small (by simpa using h)]; exact Nat.le_refl _
  | k + 1, u, h => by
    by_cases hu : u < 10
    · rw [Lib.nDigits_small hu]; omega
    · rw [Lib.nDigits_big hu]
      have := nd_le k (u / 10) (by rw [Nat.pow_succ] at h; omega)
      omega
theorem itoa_len {n : Int} (h0 : -131072 ≤ n) (h1 : n < 131072) : (Lib.itoa n).length ≤ 7 := by
  have h2 := nd_le 5 n.natAbs (by omega)
  have h3 := nd_le 5 n.toNat (by omega)
  unfold Lib.itoa
  split
  · rw [List.length_cons, Lib.decDigits_length]; omega
  · rw [Lib.decDigits_length]; omega
theorem var_below {P : Program} {W W' : World} {B : Nat} {name : String} {cs : Array Value} (h : W.var? P name = some cs) (hb : Below B W W') (hB : B = W.heap.size) : W'.var? P name = some cs := by
  subst hB
  unfold World.var? at h ⊢
  cases hg : P.globalNamed name with
  | none => rw [hg] at h; cases h
  | some g =>
    rw [hg] at h
    simp only [Option.bind_some] at h ⊢
    have hl : g < W.heap.size := by
      refine Classical.byContradiction fun hc => ?_
      rw [Array.getElem?_eq_none (by omega)] at h
      cases h
    rw [hb.block g hl]
    exact h
theorem Pw.later {W W' : World} (h : Pw W) (hb : Below W.heap.size W W') : Pw W' := var_below h hb rfl
theorem Names.later {W W' : World} (h : Names W) (hb : Below W.heap.size W W') (h0 : 0 < W.heap.size) : Names W' := h.below hb h0
set_option maxRecDepth 100000 in
set_option maxHeartbeats 4000000 in
theorem format_u (i : In) (W : World) (hT : Tabs W) (hN : Names W) (hP : Pw W) (hv : vld i = true) (hf : fmt i.op = 3) :
    Calls Tryz.prog 8 #[i.v] W fun e w' => e = .returned (.tuple #[.string (txt i), .int .i64 0]) ∧ Below W.heap.size W w' := by
  have V := Lib.hid (fun W hT => valid_at i true W hT hv)
  have F := Lib.hid (fun W hT => format_at i.op 3 W hT hf)
  have hm := imm_bounds hv
  have hml := itoa_len hm.1 hm.2
  have hb0 := vld_bounds hv
  obtain ⟨k, hk, hk26, hc⟩ := names_at hN hb0.1 hb0.2.1
  have ht : txt i = ⟨(Lib.join ([nm i.op, tag 114 i.rd.toNat, ⟨(Lib.itoa i.imm).toArray⟩].map (fun x => x.data.toList)) [32]).toArray⟩ := by
    unfold txt parts
    rw [hf]
    simp
  rw [ht]
  have hra : 0 ≤ i.rd ∧ i.rd < 16 := by omega
  clear hv hf ht hb0 hN
  obtain ⟨i0, i1, i2, i3, i4⟩ := i
  dsimp only at hk hc hm hml
  subst hk
  dsimp only at hra
  obtain ⟨a, rfl⟩ := Int.eq_ofNat_of_zero_le hra.1
  simp only [Int.toNat_natCast]
  have ha : a < 100 := by omega
  have hrg := register_at a ha
  have hdl := dec_len a ha
  have htl : (tag 114 a).data.toList.length ≤ 3 := by simp [tag]; omega
  obtain ⟨S, hS⟩ : ∃ S, tag 114 a = S := ⟨_, rfl⟩
  rw [hS] at hrg htl
  simp only [hS]
  have hI := Lib.hid (fun w hw => itoa_at i4 (by omega) (by omega) w hw)
  obtain ⟨M, hM⟩ : ∃ M : ByteArray, ⟨(Lib.itoa i4).toArray⟩ = M := ⟨_, rfl⟩
  have hMl : M.data.toList.length ≤ 7 := by rw [← hM]; simpa using hml
  rw [hM] at hI
  simp only [hM]
  clear hS hdl hra hM hml
  have hm1 : IntKind.i64.wrap i4 = i4 := by rw [IntKind.wrap_i64]; omega
  clear hm
  obtain ⟨i0x, hi, hz0, hz1, hz2⟩ := info_parts info9
  simp only [In.v] at V F ⊢
  have HT := Lib.hid hT
  clear hT
  have hs0 : 0 < W.heap.size := by have := HT.out.size; omega
  have hNl := nm_len k hk26
  obtain ⟨N, hN⟩ : ∃ N, nm (k : Int) = N := ⟨_, rfl⟩
  rw [hN] at hNl
  rw [hN] at hc
  simp only [hN]
  have HP := Lib.hid hP
  clear hP
  go_enter Tryz.func8, Tryz.ntmps8
  go_wp2_with fail
  refine (V.out _ (HT.out.later ((Below.refl _ W).alloc (Nat.le_refl _) _))).mono ?_
  rintro e w1 ⟨rfl, hb⟩
  have B1 : Hid (Below W.heap.size W w1) := Lib.hid (((Below.refl _ W).alloc (Nat.le_refl _) _).trans (hb.mono (by simp)))
  have z1 : W.heap.size < w1.heap.size := by have := hb.size; simp at this; omega
  have a1 : ∀ j, w1.cell? ⟨W.heap.size, j, none⟩ = (#[.int .i64 (k : Int), .int .i64 (a : Int), .int .i64 i2, .int .i64 i3, .int .i32 i4] : Array Value)[j]? := fun j => (hb.cell (p := ⟨W.heap.size, j, none⟩) (by simp)).trans (World.cell?_alloc_new W _ _ j)
  have hc1 : w1.cell? ⟨0, k, none⟩ = some (.string N) := (B1.out.cell (p := ⟨0, k, none⟩) hs0).trans hc
  clear hb
  have z0 : 0 < w1.heap.size := by omega
  have q1 : (0 : Int) ≤ (k : Int) := by omega
  have q2 : (k : Int) < 26 := by omega
  have B2 : Hid (Below W.heap.size W (w1.alloc (.cells #[.string N] 9))) := Lib.hid (B1.out.alloc (by omega) _)
  go_wp2_with fail
  refine (hI.out _ (HP.out.later B2.out)).mono ?_
  rintro e w2 ⟨rfl, hb⟩
  have B3 : Hid (Below W.heap.size W w2) := Lib.hid (B2.out.trans (hb.mono (by simp; omega)))
  have z2 : w1.heap.size < w2.heap.size := by have := hb.size; simp at this; omega
  have a2 : ∀ j, w2.cell? ⟨W.heap.size, j, none⟩ = (#[.int .i64 (k : Int), .int .i64 (a : Int), .int .i64 i2, .int .i64 i3, .int .i32 i4] : Array Value)[j]? := fun j => (hb.cell (p := ⟨W.heap.size, j, none⟩) (by simp; omega)).trans ((World.cell?_alloc_lt _ _ ⟨W.heap.size, j, none⟩ z1).trans (a1 j))
  have hrow : w2.heap[w1.heap.size]? = some (.cells #[.string N] 9 (0, 0)) := (hb.block _ (by simp)).trans (World.alloc_heap_new w1 _)
  clear hb a1 hc1 B2
  go_wp2_with fail
  refine (F.out _ (HT.out.later B3.out)).mono ?_
  rintro e w3 ⟨rfl, rfl⟩
  go_wp2_with fail
  refine (hrg _).mono ?_
  rintro e w4 ⟨rfl, rfl⟩
  have hown : w4.ownsRow W.heap.size 9 1 (.slice (some ⟨w1.heap.size, 0, none⟩) 1 1) 1 [.string N] :=
    ⟨rfl, .inr ⟨w1.heap.size, 1, #[.string N], rfl, by omega, hrow, Nat.le_refl _, by simp [maxLen], rfl, rfl⟩⟩
  have hnews := cells_new3 w4 [.string S, .string M] 9
  go_wp2_with (first
    | (at_builtin; refine wpList_append_own _ rfl _ _ 62 rfl W.heap.size 9 i0x (.string ByteArray.empty) 1 16 Tryz.underlying62 hi hz0 hz1 hz2 rfl (by decide) _ _ _ rfl (hown.alloc _) ⟨w4.heap.size, 0, none⟩ 2 2 [.string S, .string M] rfl rfl hnews (fun x hx => by simp at hx; rcases hx with rfl | rfl <;> rfl) (by simp [maxLen]) (by omega) (by simp; omega) ?_; intro v5 w5 hown5 hgrow5 hnil5
       have B5 : Hid (Below W.heap.size W w5) := Lib.hid (Below.grown (B3.out.alloc B3.out.size _) hgrow5 (by simp; omega) (fun j hj => (hown.lt _ hj).1))
       obtain ⟨g, d, rfl, hgd, hgl, hgc⟩ := strs_of_row (k := 3) (xs := [N, S, M]) rfl (by omega) hown5
       clear hown5 hgrow5 hnil5 hown hnews))
  have J := Tryz.strings_Join g 0 d [N, S, M] ⟨#[32]⟩ w5 hgc hgl (by simp) hgd ?hlen
  case hlen => rw [List.map_cons, List.map_cons, List.map_cons, List.map_nil, join_three]; simp only [List.length_append, List.length_cons, List.length_nil]; omega
  go_wp2_with fail
  refine J.mono ?_
  rintro e w6 ⟨rfl, hb⟩
  have B6 : Hid (Below W.heap.size W w6) := Lib.hid (B5.out.trans (hb.mono B5.out.size))
  clear hb J
  go_wp2
  go_ret2
  exact ⟨rfl, B6.out⟩
set_option maxRecDepth 100000 in
set_option maxHeartbeats 4000000 in
theorem format_i (i : In) (W : World) (hT : Tabs W) (hN : Names W) (hP : Pw W) (hv : vld i = true) (hf : fmt i.op = 2) :
    Calls Tryz.prog 8 #[i.v] W fun e w' => e = .returned (.tuple #[.string (txt i), .int .i64 0]) ∧ Below W.heap.size W w' := by
  have V := Lib.hid (fun W hT => valid_at i true W hT hv)
  have F := Lib.hid (fun W hT => format_at i.op 2 W hT hf)
  have hm := imm_bounds hv
  have hml := itoa_len hm.1 hm.2
  have hb0 := vld_bounds hv
  obtain ⟨k, hk, hk26, hc⟩ := names_at hN hb0.1 hb0.2.1
  have ht : txt i = ⟨(Lib.join ([nm i.op, tag 114 i.rd.toNat, tag 114 i.ra.toNat, ⟨(Lib.itoa i.imm).toArray⟩].map (fun x => x.data.toList)) [32]).toArray⟩ := by
    unfold txt parts
    rw [hf]
    simp
  rw [ht]
  have hr : (0 ≤ i.rd ∧ i.rd < 16) ∧ (0 ≤ i.ra ∧ i.ra < 16) := by omega
  clear hv hf ht hb0 hN
  obtain ⟨i0, i1, i2, i3, i4⟩ := i
  dsimp only at hk hc hm hml
  subst hk
  dsimp only at hr
  obtain ⟨d, rfl⟩ := Int.eq_ofNat_of_zero_le hr.1.1
  obtain ⟨a, rfl⟩ := Int.eq_ofNat_of_zero_le hr.2.1
  simp only [Int.toNat_natCast]
  have hd : d < 100 := by omega
  have ha : a < 100 := by omega
  have hrg := Lib.hid (fun n hn => register_at n hn)
  have hdl : (tag 114 d).data.toList.length ≤ 3 := by have := dec_len d hd; simp [tag]; omega
  have hal : (tag 114 a).data.toList.length ≤ 3 := by have := dec_len a ha; simp [tag]; omega
  have hI := Lib.hid (fun w hw => itoa_at i4 (by omega) (by omega) w hw)
  obtain ⟨M, hM⟩ : ∃ M : ByteArray, ⟨(Lib.itoa i4).toArray⟩ = M := ⟨_, rfl⟩
  have hMl : M.data.toList.length ≤ 7 := by rw [← hM]; simpa using hml
  rw [hM] at hI
  simp only [hM]
  clear hr hM hml
  have hm1 : IntKind.i64.wrap i4 = i4 := by rw [IntKind.wrap_i64]; omega
  clear hm
  obtain ⟨i0x, hi, hz0, hz1, hz2⟩ := info_parts info9
  simp only [In.v] at V F ⊢
  have HT := Lib.hid hT
  clear hT
  have hs0 : 0 < W.heap.size := by have := HT.out.size; omega
  have hNl := nm_len k hk26
  obtain ⟨N, hN⟩ : ∃ N, nm (k : Int) = N := ⟨_, rfl⟩
  rw [hN] at hNl
  rw [hN] at hc
  simp only [hN]
  have HP := Lib.hid hP
  clear hP
  go_enter Tryz.func8, Tryz.ntmps8
  go_wp2_with fail
  refine (V.out _ (HT.out.later ((Below.refl _ W).alloc (Nat.le_refl _) _))).mono ?_
  rintro e w1 ⟨rfl, hb⟩
  have B1 : Hid (Below W.heap.size W w1) := Lib.hid (((Below.refl _ W).alloc (Nat.le_refl _) _).trans (hb.mono (by simp)))
  have z1 : W.heap.size < w1.heap.size := by have := hb.size; simp at this; omega
  have a1 : ∀ j, w1.cell? ⟨W.heap.size, j, none⟩ = (#[.int .i64 (k : Int), .int .i64 (d : Int), .int .i64 (a : Int), .int .i64 i3, .int .i32 i4] : Array Value)[j]? := fun j => (hb.cell (p := ⟨W.heap.size, j, none⟩) (by simp)).trans (World.cell?_alloc_new W _ _ j)
  have hc1 : w1.cell? ⟨0, k, none⟩ = some (.string N) := (B1.out.cell (p := ⟨0, k, none⟩) hs0).trans hc
  clear hb
  have z0 : 0 < w1.heap.size := by omega
  have q1 : (0 : Int) ≤ (k : Int) := by omega
  have q2 : (k : Int) < 26 := by omega
  have B2 : Hid (Below W.heap.size W (w1.alloc (.cells #[.string N] 9))) := Lib.hid (B1.out.alloc (by omega) _)
  go_wp2_with fail
  refine (hI.out _ (HP.out.later B2.out)).mono ?_
  rintro e w2 ⟨rfl, hb⟩
  have B3 : Hid (Below W.heap.size W w2) := Lib.hid (B2.out.trans (hb.mono (by simp; omega)))
  have z2 : w1.heap.size < w2.heap.size := by have := hb.size; simp at this; omega
  have a2 : ∀ j, w2.cell? ⟨W.heap.size, j, none⟩ = (#[.int .i64 (k : Int), .int .i64 (d : Int), .int .i64 (a : Int), .int .i64 i3, .int .i32 i4] : Array Value)[j]? := fun j => (hb.cell (p := ⟨W.heap.size, j, none⟩) (by simp; omega)).trans ((World.cell?_alloc_lt _ _ ⟨W.heap.size, j, none⟩ z1).trans (a1 j))
  have hrow : w2.heap[w1.heap.size]? = some (.cells #[.string N] 9 (0, 0)) := (hb.block _ (by simp)).trans (World.alloc_heap_new w1 _)
  clear hb a1 hc1 B2
  go_wp2_with fail
  refine (F.out _ (HT.out.later B3.out)).mono ?_
  rintro e w3 ⟨rfl, rfl⟩
  have hown : w2.ownsRow W.heap.size 9 1 (.slice (some ⟨w1.heap.size, 0, none⟩) 1 1) 1 [.string N] :=
    ⟨rfl, .inr ⟨w1.heap.size, 1, #[.string N], rfl, by omega, hrow, Nat.le_refl _, by simp [maxLen], rfl, rfl⟩⟩
  have g1 := a2 1
  have g2 := a2 2
  have hw2l : W.heap.size < w2.heap.size := by omega
  simp only [List.getElem?_toArray, List.getElem?_cons_succ, List.getElem?_cons_zero] at g1 g2
  go_wp2_with fail
  clear a2 hrow HT F V hI HP
  have G1 : ∀ o, (w2.alloc o).cell? ⟨W.heap.size, 1, none⟩ = some (.int .i64 (d : Int)) := fun o => (World.cell?_alloc_lt _ _ ⟨W.heap.size, 1, none⟩ hw2l).trans g1
  have G2 : ∀ o, (w2.alloc o).cell? ⟨W.heap.size, 2, none⟩ = some (.int .i64 (a : Int)) := fun o => (World.cell?_alloc_lt _ _ ⟨W.heap.size, 2, none⟩ hw2l).trans g2
  have hne : some W.heap.size ≠ Value.ownBlock (.slice (some ⟨w1.heap.size, 0, none⟩) 1 1) := by simp [Value.ownBlock]; omega
  have hone : ∀ u ∈ [Value.string (tag 114 d), .string (tag 114 a), .string M], u.oneCell' = true := by
    intro u hu
    simp only [List.mem_cons, List.not_mem_nil, or_false] at hu
    rcases hu with rfl | rfl | rfl <;> rfl
  have hbase : W.heap.size ≤ (w2.alloc (.cells #[.string (tag 114 d), .string (tag 114 a), .string M] 9)).heap.size := by simp; omega
  go_region_held3 (fun w' => w'.cell? ⟨W.heap.size, 1, none⟩ = some (.int .i64 (d : Int)) ∧ w'.cell? ⟨W.heap.size, 2, none⟩ = some (.int .i64 (a : Int))) (first | go_keep | exact ⟨hgrow5.cell (G1 _) hne, hgrow5.cell (G2 _) hne⟩)
    (first
      | (go_at_call 25; refine (hrg.out _ (by assumption) _).mono ?_; rintro e w' ⟨rfl, rfl⟩)
      | (refine step_append_lies _ (by rfl) _ _ _ (by rfl) W.heap.size 9 i0x (.string ByteArray.empty) 1 16 Tryz.underlying62 hi hz0 hz1 hz2 (by rfl) (by decide) (.slice (some ⟨w1.heap.size, 0, none⟩) 1 1) 1 [.string N] (by rfl) (hown.alloc _) ⟨w2.heap.size, 0, none⟩ 3 3 [.string (tag 114 d), .string (tag 114 a), .string M] (by rfl) (by rfl) (cells_new3 w2 _ 9) hone (by decide) (by simp [maxLen]) (by decide) hbase (w2.heap.size + 1) (by simp) ?_; intro g cap w5 hown5 hgrow5 hat5 hlt5))
  have B5 : Hid (Below W.heap.size W w5) := Lib.hid (Below.grown (B3.out.alloc B3.out.size _).drew hgrow5 hbase (fun j hj => (hown.lt _ hj).1))
  obtain ⟨g', d', he, hgd, hgl, hgc⟩ := strs_of_row (k := 4) (xs := [N, tag 114 d, tag 114 a, M]) rfl (by omega) hown5
  cases he
  clear hown5 hgrow5 hat5 hlt5 hown hone hbase G1 G2 g1 g2
  have J := Tryz.strings_Join g 0 cap [N, tag 114 d, tag 114 a, M] ⟨#[32]⟩ w5 hgc hgl (by simp) hgd ?hlen
  case hlen => rw [List.map_cons, List.map_cons, List.map_cons, List.map_cons, List.map_nil, join_four]; simp only [List.length_append, List.length_cons, List.length_nil]; omega
  go_wp2_with fail
  refine J.mono ?_
  rintro e w6 ⟨rfl, hb⟩
  have B6 : Hid (Below W.heap.size W w6) := Lib.hid (B5.out.trans (hb.mono B5.out.size))
  clear hb J
  go_wp2
  go_ret2
  exact ⟨rfl, B6.out⟩
end Go.Proofs.YtihnglgknncgpaaGreatDoor.Asm
