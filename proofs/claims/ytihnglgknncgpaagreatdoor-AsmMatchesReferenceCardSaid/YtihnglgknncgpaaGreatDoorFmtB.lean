/- asm.Format at an instruction of three registers, walked. asm.Format at an instruction of a register and a control register, walked. strconv.Itoa, as the walks ask it. -/
import Derived.Test.YtihnglgknncgpaaGreatDoorFmtA
import Derived.Deep.RegionHeld3
import Derived.Deep.AppendLies
import Derived.Lib.AppendIntMem
namespace Go.Proofs.YtihnglgknncgpaaGreatDoor.Asm
open Go Go.RowKit Go.Proofs.YtihnglgknncgpaaGreatDoor.PAsmEveryWordHasOneLine Go.Proofs.YtihnglgknncgpaaGreatDoorW.PrintWords Go.Proofs.YtihnglgknncgpaaGreatDoorW.PrintLast Go.Proofs.YtihnglgknncgpaaGreatDoorW.PrintMore Go.Proofs.YtihnglgknncgpaaGreatDoor.Bm Go.Proofs.YtihnglgknncgpaaGreatDoor.Isa
set_option linter.unusedVariables false
set_option linter.unusedSimpArgs false
theorem join_four (x y z u s : List UInt8) : Lib.join [x, y, z, u] s = x ++ (s ++ (y ++ (s ++ (z ++ (s ++ u))))) := by simp [Lib.join, List.intercalate]
theorem cells_new3 (w : World) (l : List Value) (t : TypeId) : ∀ j u, l[j]? = some u → (w.alloc (.cells l.toArray t)).cell? ((⟨w.heap.size, 0, none⟩ : Addr).add j) = some u := by
  intro j u hj
  have : (⟨w.heap.size, 0, none⟩ : Addr).add j = ⟨w.heap.size, j, none⟩ := by
    unfold Addr.add
    split <;> simp_all
  rw [this, World.cell?_alloc_new]
  simpa using hj
set_option maxRecDepth 100000 in
set_option maxHeartbeats 4000000 in
theorem format_r (i : In) (W : World) (hT : Tabs W) (hN : Names W) (hv : vld i = true) (hf : fmt i.op = 1) :
    Calls Tryz.prog 8 #[i.v] W fun e w' => e = .returned (.tuple #[.string (txt i), .int .i64 0]) ∧ Below W.heap.size W w' := by
  have V := Lib.hid (fun W hT => valid_at i true W hT hv)
  have F := Lib.hid (fun W hT => format_at i.op 1 W hT hf)
  have hz : i.imm = 0 := by
    obtain ⟨_, h1, _⟩ := vld_parts hv
    rw [hf] at h1
    simpa [numOk, hasF, ptl] using h1
  have hb0 := vld_bounds hv
  obtain ⟨k, hk, hk26, hc⟩ := names_at hN hb0.1 hb0.2.1
  have ht : txt i = ⟨(Lib.join ([nm i.op, tag 114 i.rd.toNat, tag 114 i.ra.toNat, tag 114 i.rb.toNat].map (fun x => x.data.toList)) [32]).toArray⟩ := by
    unfold txt parts
    rw [hf]
    simp
  rw [ht]
  have hr : (0 ≤ i.rd ∧ i.rd < 16) ∧ (0 ≤ i.ra ∧ i.ra < 16) ∧ (0 ≤ i.rb ∧ i.rb < 16) := by omega
  clear hv hf ht hb0 hN
  obtain ⟨i0, i1, i2, i3, i4⟩ := i
  dsimp only at hz hk hc
  subst hz
  subst hk
  dsimp only at hr
  obtain ⟨d, rfl⟩ := Int.eq_ofNat_of_zero_le hr.1.1
  obtain ⟨a, rfl⟩ := Int.eq_ofNat_of_zero_le hr.2.1.1
  obtain ⟨b, rfl⟩ := Int.eq_ofNat_of_zero_le hr.2.2.1
  simp only [Int.toNat_natCast]
  have hd : d < 100 := by omega
  have ha : a < 100 := by omega
  have hb' : b < 100 := by omega
  have hrg := Lib.hid (fun n hn => register_at n hn)
  have tl : ∀ n, n < 100 → (tag 114 n).data.toList.length ≤ 3 := fun n hn => by have := dec_len n hn; simp [tag]; omega
  have hdl := tl d hd
  have hal := tl a ha
  have hbl := tl b hb'
  clear tl hr
  obtain ⟨i0x, hi, hz0, hz1, hz2⟩ := info_parts info9
  simp only [In.v] at V F ⊢
  have HT := Lib.hid hT
  clear hT
  have hs0 : 0 < W.heap.size := by have := HT.out.size; omega
  have hNl := nm_len k hk26
  obtain ⟨N, hN⟩ : ∃ N, nm (k : Int) = N := ⟨_, rfl⟩
  rw [hN] at hNl
  rw [hN] at hc
  simp only [hN]
  go_enter Tryz.func8, Tryz.ntmps8
  go_wp2_with fail
  refine (V.out _ (HT.out.later ((Below.refl _ W).alloc (Nat.le_refl _) _))).mono ?_
  rintro e w1 ⟨rfl, hb⟩
  have B1 : Hid (Below W.heap.size W w1) := Lib.hid (((Below.refl _ W).alloc (Nat.le_refl _) _).trans (hb.mono (by simp)))
  have z1 : W.heap.size < w1.heap.size := by have := hb.size; simp at this; omega
  have a1 : ∀ j, w1.cell? ⟨W.heap.size, j, none⟩ = (#[.int .i64 (k : Int), .int .i64 (d : Int), .int .i64 (a : Int), .int .i64 (b : Int), .int .i32 0] : Array Value)[j]? := fun j => (hb.cell (p := ⟨W.heap.size, j, none⟩) (by simp)).trans (World.cell?_alloc_new W _ _ j)
  have hc1 : w1.cell? ⟨0, k, none⟩ = some (.string N) := (B1.out.cell (p := ⟨0, k, none⟩) hs0).trans hc
  clear hb
  have z0 : 0 < w1.heap.size := by omega
  have q1 : (0 : Int) ≤ (k : Int) := by omega
  have q2 : (k : Int) < 26 := by omega
  have I := Tryz.strconv_Itoa_small 0 (by decide)
  have B2 : Hid (Below W.heap.size W (w1.alloc (.cells #[.string N] 9))) := Lib.hid (B1.out.alloc (by omega) _)
  go_wp2_with fail
  refine (I _).mono ?_
  rintro e w2 ⟨rfl, rfl⟩
  go_wp2_with fail
  refine (F.out _ (HT.out.later B2.out)).mono ?_
  rintro e w3 ⟨rfl, rfl⟩
  have hown : (w1.alloc (.cells #[.string N] 9)).ownsRow W.heap.size 9 1 (.slice (some ⟨w1.heap.size, 0, none⟩) 1 1) 1 [.string N] :=
    ⟨rfl, .inr ⟨w1.heap.size, 1, #[.string N], rfl, by omega, by first | exact heap_alloc_new _ _ | exact World.heap_alloc_new _ _ | simp, Nat.le_refl _, by simp [maxLen], rfl, rfl⟩⟩
  have g1 : (w1.alloc (.cells #[.string N] 9)).cell? ⟨W.heap.size, 1, none⟩ = some (.int .i64 (d : Int)) := by rw [World.cell?_alloc_lt _ _ ⟨W.heap.size, 1, none⟩ z1]; exact a1 1
  have g2 : (w1.alloc (.cells #[.string N] 9)).cell? ⟨W.heap.size, 2, none⟩ = some (.int .i64 (a : Int)) := by rw [World.cell?_alloc_lt _ _ ⟨W.heap.size, 2, none⟩ z1]; exact a1 2
  have g3 : (w1.alloc (.cells #[.string N] 9)).cell? ⟨W.heap.size, 3, none⟩ = some (.int .i64 (b : Int)) := by rw [World.cell?_alloc_lt _ _ ⟨W.heap.size, 3, none⟩ z1]; exact a1 3
  have hw2l : W.heap.size < (w1.alloc (.cells #[.string N] 9)).heap.size := by simp; omega
  obtain ⟨w2, hw2⟩ : ∃ w2, w1.alloc (.cells #[.string N] 9) = w2 := ⟨_, rfl⟩
  rw [hw2] at g1 g2 g3 hown B2 hw2l
  go_wp2_with fail
  clear hw2 a1 hc1 HT F V I B1
  have G1 : ∀ o, (w2.alloc o).cell? ⟨W.heap.size, 1, none⟩ = some (.int .i64 (d : Int)) := fun o => (World.cell?_alloc_lt _ _ ⟨W.heap.size, 1, none⟩ hw2l).trans g1
  have G2 : ∀ o, (w2.alloc o).cell? ⟨W.heap.size, 2, none⟩ = some (.int .i64 (a : Int)) := fun o => (World.cell?_alloc_lt _ _ ⟨W.heap.size, 2, none⟩ hw2l).trans g2
  have G3 : ∀ o, (w2.alloc o).cell? ⟨W.heap.size, 3, none⟩ = some (.int .i64 (b : Int)) := fun o => (World.cell?_alloc_lt _ _ ⟨W.heap.size, 3, none⟩ hw2l).trans g3
  have hne : some W.heap.size ≠ Value.ownBlock (.slice (some ⟨w1.heap.size, 0, none⟩) 1 1) := by simp [Value.ownBlock]; omega
  have hone : ∀ u ∈ [Value.string (tag 114 d), .string (tag 114 a), .string (tag 114 b)], u.oneCell' = true := by
    intro u hu
    simp only [List.mem_cons, List.not_mem_nil, or_false] at hu
    rcases hu with rfl | rfl | rfl <;> rfl
  have hbase : W.heap.size ≤ (w2.alloc (.cells #[.string (tag 114 d), .string (tag 114 a), .string (tag 114 b)] 9)).heap.size := by have := B2.out.size; simp; omega
  go_region_held3 (fun w' => w'.cell? ⟨W.heap.size, 1, none⟩ = some (.int .i64 (d : Int)) ∧ w'.cell? ⟨W.heap.size, 2, none⟩ = some (.int .i64 (a : Int)) ∧ w'.cell? ⟨W.heap.size, 3, none⟩ = some (.int .i64 (b : Int))) (first | go_keep | exact ⟨hgrow5.cell (G1 _) hne, hgrow5.cell (G2 _) hne, hgrow5.cell (G3 _) hne⟩)
    (first
      | (go_at_call 25; refine (hrg.out _ (by assumption) _).mono ?_; rintro e w' ⟨rfl, rfl⟩)
      | (refine step_append_lies _ (by rfl) _ _ _ (by rfl) W.heap.size 9 i0x (.string ByteArray.empty) 1 16 Tryz.underlying62 hi hz0 hz1 hz2 (by rfl) (by decide) (.slice (some ⟨w1.heap.size, 0, none⟩) 1 1) 1 [.string N] (by rfl) (hown.alloc _) ⟨w2.heap.size, 0, none⟩ 3 3 [.string (tag 114 d), .string (tag 114 a), .string (tag 114 b)] (by rfl) (by rfl) (cells_new3 w2 _ 9) hone (by decide) (by simp [maxLen]) (by decide) hbase (w2.heap.size + 1) (by simp) ?_; intro g cap w5 hown5 hgrow5 hat5 hlt5))
  have B5 : Hid (Below W.heap.size W w5) := Lib.hid (Below.grown (B2.out.alloc B2.out.size _).drew hgrow5 hbase (fun j hj => (hown.lt _ hj).1))
  obtain ⟨g', d', he, hgd, hgl, hgc⟩ := strs_of_row (k := 4) (xs := [N, tag 114 d, tag 114 a, tag 114 b]) rfl (by omega) hown5
  cases he
  clear hown5 hgrow5 hat5 hlt5 hown hone hbase G1 G2 G3 g1 g2 g3
  have J := Tryz.strings_Join g 0 cap [N, tag 114 d, tag 114 a, tag 114 b] ⟨#[32]⟩ w5 hgc hgl (by simp) hgd ?hlen
  case hlen => rw [List.map_cons, List.map_cons, List.map_cons, List.map_cons, List.map_nil, join_four]; simp only [List.length_append, List.length_cons, List.length_nil]; omega
  go_wp2_with fail
  refine J.mono ?_
  rintro e w6 ⟨rfl, hb⟩
  have B6 : Hid (Below W.heap.size W w6) := Lib.hid (B5.out.trans (hb.mono B5.out.size))
  clear hb J
  go_wp2
  go_ret2
  exact ⟨rfl, B6.out⟩
theorem join_three (x y z s : List UInt8) : Lib.join [x, y, z] s = x ++ (s ++ (y ++ (s ++ z))) := by simp [Lib.join, List.intercalate]
set_option maxRecDepth 100000 in
set_option maxHeartbeats 4000000 in
theorem format_c (i : In) (W : World) (hT : Tabs W) (hN : Names W) (hv : vld i = true) (hf : fmt i.op = 5) :
    Calls Tryz.prog 8 #[i.v] W fun e w' => e = .returned (.tuple #[.string (txt i), .int .i64 0]) ∧ Below W.heap.size W w' := by
  have V := Lib.hid (fun W hT => valid_at i true W hT hv)
  have F := Lib.hid (fun W hT => format_at i.op 5 W hT hf)
  have hz : 0 ≤ i.imm ∧ i.imm < 12 := by
    obtain ⟨_, h1, _⟩ := vld_parts hv
    rw [hf] at h1
    simp [numOk, hasF, ptl] at h1
    omega
  have hb0 := vld_bounds hv
  obtain ⟨k, hk, hk26, hc⟩ := names_at hN hb0.1 hb0.2.1
  have ht : txt i = ⟨(Lib.join ([nm i.op, tag 114 i.rd.toNat, tag 99 i.imm.toNat].map (fun x => x.data.toList)) [32]).toArray⟩ := by
    unfold txt parts
    rw [hf]
    simp
  rw [ht]
  have hr : 0 ≤ i.rd ∧ i.rd < 16 := by omega
  clear hv hf ht hb0 hN
  obtain ⟨i0, i1, i2, i3, i4⟩ := i
  dsimp only at hz hk hc
  subst hk
  dsimp only at hr
  obtain ⟨d, rfl⟩ := Int.eq_ofNat_of_zero_le hr.1
  obtain ⟨m, rfl⟩ := Int.eq_ofNat_of_zero_le hz.1
  simp only [Int.toNat_natCast]
  have hd : d < 100 := by omega
  have hm : m < 100 := by omega
  have hct := Lib.hid (fun n hn => control_at n hn)
  have hrg := Lib.hid (fun n hn => register_at n hn)
  have hdl : (tag 114 d).data.toList.length ≤ 3 := by have := dec_len d hd; simp [tag]; omega
  have hml : (tag 99 m).data.toList.length ≤ 3 := by have := dec_len m hm; simp [tag]; omega
  clear hr hz
  obtain ⟨i0x, hi, hz0, hz1, hz2⟩ := info_parts info9
  simp only [In.v] at V F ⊢
  have HT := Lib.hid hT
  clear hT
  have hs0 : 0 < W.heap.size := by have := HT.out.size; omega
  have hNl := nm_len k hk26
  obtain ⟨N, hN⟩ : ∃ N, nm (k : Int) = N := ⟨_, rfl⟩
  rw [hN] at hNl
  rw [hN] at hc
  simp only [hN]
  go_enter Tryz.func8, Tryz.ntmps8
  go_wp2_with fail
  refine (V.out _ (HT.out.later ((Below.refl _ W).alloc (Nat.le_refl _) _))).mono ?_
  rintro e w1 ⟨rfl, hb⟩
  have B1 : Hid (Below W.heap.size W w1) := Lib.hid (((Below.refl _ W).alloc (Nat.le_refl _) _).trans (hb.mono (by simp)))
  have z1 : W.heap.size < w1.heap.size := by have := hb.size; simp at this; omega
  have a1 : ∀ j, w1.cell? ⟨W.heap.size, j, none⟩ = (#[.int .i64 (k : Int), .int .i64 (d : Int), .int .i64 i2, .int .i64 i3, .int .i32 (m : Int)] : Array Value)[j]? := fun j => (hb.cell (p := ⟨W.heap.size, j, none⟩) (by simp)).trans (World.cell?_alloc_new W _ _ j)
  have hc1 : w1.cell? ⟨0, k, none⟩ = some (.string N) := (B1.out.cell (p := ⟨0, k, none⟩) hs0).trans hc
  clear hb
  have z0 : 0 < w1.heap.size := by omega
  have q1 : (0 : Int) ≤ (k : Int) := by omega
  have q2 : (k : Int) < 26 := by omega
  have I := Tryz.strconv_Itoa_small m hm
  have B2 : Hid (Below W.heap.size W (w1.alloc (.cells #[.string N] 9))) := Lib.hid (B1.out.alloc (by omega) _)
  go_wp2_with fail
  refine (I _).mono ?_
  rintro e w2 ⟨rfl, rfl⟩
  go_wp2_with fail
  refine (F.out _ (HT.out.later B2.out)).mono ?_
  rintro e w3 ⟨rfl, rfl⟩
  have hown : (w1.alloc (.cells #[.string N] 9)).ownsRow W.heap.size 9 1 (.slice (some ⟨w1.heap.size, 0, none⟩) 1 1) 1 [.string N] :=
    ⟨rfl, .inr ⟨w1.heap.size, 1, #[.string N], rfl, by omega, by first | exact heap_alloc_new _ _ | exact World.heap_alloc_new _ _ | simp, Nat.le_refl _, by simp [maxLen], rfl, rfl⟩⟩
  have g1 : (w1.alloc (.cells #[.string N] 9)).cell? ⟨W.heap.size, 1, none⟩ = some (.int .i64 (d : Int)) := by rw [World.cell?_alloc_lt _ _ ⟨W.heap.size, 1, none⟩ z1]; exact a1 1
  have g2 : (w1.alloc (.cells #[.string N] 9)).cell? ⟨W.heap.size, 4, none⟩ = some (.int .i32 (m : Int)) := by rw [World.cell?_alloc_lt _ _ ⟨W.heap.size, 4, none⟩ z1]; exact a1 4
  have hw2l : W.heap.size < (w1.alloc (.cells #[.string N] 9)).heap.size := by simp; omega
  obtain ⟨w2, hw2⟩ : ∃ w2, w1.alloc (.cells #[.string N] 9) = w2 := ⟨_, rfl⟩
  rw [hw2] at g1 g2 hown B2 hw2l
  go_wp2_with fail
  clear hw2 a1 hc1 HT F V I B1
  have G1 : ∀ o, (w2.alloc o).cell? ⟨W.heap.size, 1, none⟩ = some (.int .i64 (d : Int)) := fun o => (World.cell?_alloc_lt _ _ ⟨W.heap.size, 1, none⟩ hw2l).trans g1
  have G2 : ∀ o, (w2.alloc o).cell? ⟨W.heap.size, 4, none⟩ = some (.int .i32 (m : Int)) := fun o => (World.cell?_alloc_lt _ _ ⟨W.heap.size, 4, none⟩ hw2l).trans g2
  have hne : some W.heap.size ≠ Value.ownBlock (.slice (some ⟨w1.heap.size, 0, none⟩) 1 1) := by simp [Value.ownBlock]; omega
  have hone : ∀ u ∈ [Value.string (tag 114 d), .string (tag 99 m)], u.oneCell' = true := by
    intro u hu
    simp only [List.mem_cons, List.not_mem_nil, or_false] at hu
    rcases hu with rfl | rfl <;> rfl
  have hbase : W.heap.size ≤ (w2.alloc (.cells #[.string (tag 114 d), .string (tag 99 m)] 9)).heap.size := by have := B2.out.size; simp; omega
  go_region_held3 (fun w' => w'.cell? ⟨W.heap.size, 1, none⟩ = some (.int .i64 (d : Int)) ∧ w'.cell? ⟨W.heap.size, 4, none⟩ = some (.int .i32 (m : Int))) (first | go_keep | exact ⟨hgrow5.cell (G1 _) hne, hgrow5.cell (G2 _) hne⟩)
    (first
      | (go_at_call 26; refine (hct.out _ (by assumption) _).mono ?_; rintro e w' ⟨rfl, rfl⟩)
      | (go_at_call 25; refine (hrg.out _ (by assumption) _).mono ?_; rintro e w' ⟨rfl, rfl⟩)
      | (refine step_append_lies _ (by rfl) _ _ _ (by rfl) W.heap.size 9 i0x (.string ByteArray.empty) 1 16 Tryz.underlying62 hi hz0 hz1 hz2 (by rfl) (by decide) (.slice (some ⟨w1.heap.size, 0, none⟩) 1 1) 1 [.string N] (by rfl) (hown.alloc _) ⟨w2.heap.size, 0, none⟩ 2 2 [.string (tag 114 d), .string (tag 99 m)] (by rfl) (by rfl) (cells_new3 w2 _ 9) hone (by decide) (by simp [maxLen]) (by decide) hbase (w2.heap.size + 1) (by simp) ?_; intro g cap w5 hown5 hgrow5 hat5 hlt5))
  have B5 : Hid (Below W.heap.size W w5) := Lib.hid (Below.grown (B2.out.alloc B2.out.size _).drew hgrow5 hbase (fun j hj => (hown.lt _ hj).1))
  obtain ⟨g', d', he, hgd, hgl, hgc⟩ := strs_of_row (k := 3) (xs := [N, tag 114 d, tag 99 m]) rfl (by omega) hown5
  cases he
  clear hown5 hgrow5 hat5 hlt5 hown hone hbase G1 G2 g1 g2
  have J := Tryz.strings_Join g 0 cap [N, tag 114 d, tag 99 m] ⟨#[32]⟩ w5 hgc hgl (by simp) hgd ?hlen
  case hlen => rw [List.map_cons, List.map_cons, List.map_cons, List.map_nil, join_three]; simp only [List.length_append, List.length_cons, List.length_nil]; omega
  go_wp2_with fail
  refine J.mono ?_
  rintro e w6 ⟨rfl, hb⟩
  have B6 : Hid (Below W.heap.size W w6) := Lib.hid (B5.out.trans (hb.mono B5.out.size))
  clear hb J
  go_wp2
  go_ret2
  exact ⟨rfl, B6.out⟩
set_option maxRecDepth 100000 in
set_option maxHeartbeats 4000000 in
theorem format_w (i : In) (W : World) (hT : Tabs W) (hN : Names W) (hv : vld i = true) (hf : fmt i.op = 6) :
    Calls Tryz.prog 8 #[i.v] W fun e w' => e = .returned (.tuple #[.string (txt i), .int .i64 0]) ∧ Below W.heap.size W w' := by
  have V := Lib.hid (fun W hT => valid_at i true W hT hv)
  have F := Lib.hid (fun W hT => format_at i.op 6 W hT hf)
  have hz : 0 ≤ i.imm ∧ i.imm < 12 := by
    obtain ⟨_, h1, _⟩ := vld_parts hv
    rw [hf] at h1
    simp [numOk, hasF, ptl] at h1
    omega
  have hb0 := vld_bounds hv
  obtain ⟨k, hk, hk26, hc⟩ := names_at hN hb0.1 hb0.2.1
  have ht : txt i = ⟨(Lib.join ([nm i.op, tag 99 i.imm.toNat, tag 114 i.ra.toNat].map (fun x => x.data.toList)) [32]).toArray⟩ := by
    unfold txt parts
    rw [hf]
    simp
  rw [ht]
  have hr : 0 ≤ i.ra ∧ i.ra < 16 := by omega
  clear hv hf ht hb0 hN
  obtain ⟨i0, i1, i2, i3, i4⟩ := i
  dsimp only at hz hk hc
  subst hk
  dsimp only at hr
  obtain ⟨d, rfl⟩ := Int.eq_ofNat_of_zero_le hr.1
  obtain ⟨m, rfl⟩ := Int.eq_ofNat_of_zero_le hz.1
  simp only [Int.toNat_natCast]
  have hd : d < 100 := by omega
  have hm : m < 100 := by omega
  have hct := Lib.hid (fun n hn => control_at n hn)
  have hrg := Lib.hid (fun n hn => register_at n hn)
  have hdl : (tag 114 d).data.toList.length ≤ 3 := by have := dec_len d hd; simp [tag]; omega
  have hml : (tag 99 m).data.toList.length ≤ 3 := by have := dec_len m hm; simp [tag]; omega
  clear hr hz
  obtain ⟨i0x, hi, hz0, hz1, hz2⟩ := info_parts info9
  simp only [In.v] at V F ⊢
  have HT := Lib.hid hT
  clear hT
  have hs0 : 0 < W.heap.size := by have := HT.out.size; omega
  have hNl := nm_len k hk26
  obtain ⟨N, hN⟩ : ∃ N, nm (k : Int) = N := ⟨_, rfl⟩
  rw [hN] at hNl
  rw [hN] at hc
  simp only [hN]
  go_enter Tryz.func8, Tryz.ntmps8
  go_wp2_with fail
  refine (V.out _ (HT.out.later ((Below.refl _ W).alloc (Nat.le_refl _) _))).mono ?_
  rintro e w1 ⟨rfl, hb⟩
  have B1 : Hid (Below W.heap.size W w1) := Lib.hid (((Below.refl _ W).alloc (Nat.le_refl _) _).trans (hb.mono (by simp)))
  have z1 : W.heap.size < w1.heap.size := by have := hb.size; simp at this; omega
  have a1 : ∀ j, w1.cell? ⟨W.heap.size, j, none⟩ = (#[.int .i64 (k : Int), .int .i64 i1, .int .i64 (d : Int), .int .i64 i3, .int .i32 (m : Int)] : Array Value)[j]? := fun j => (hb.cell (p := ⟨W.heap.size, j, none⟩) (by simp)).trans (World.cell?_alloc_new W _ _ j)
  have hc1 : w1.cell? ⟨0, k, none⟩ = some (.string N) := (B1.out.cell (p := ⟨0, k, none⟩) hs0).trans hc
  clear hb
  have z0 : 0 < w1.heap.size := by omega
  have q1 : (0 : Int) ≤ (k : Int) := by omega
  have q2 : (k : Int) < 26 := by omega
  have I := Tryz.strconv_Itoa_small m hm
  have B2 : Hid (Below W.heap.size W (w1.alloc (.cells #[.string N] 9))) := Lib.hid (B1.out.alloc (by omega) _)
  go_wp2_with fail
  refine (I _).mono ?_
  rintro e w2 ⟨rfl, rfl⟩
  go_wp2_with fail
  refine (F.out _ (HT.out.later B2.out)).mono ?_
  rintro e w3 ⟨rfl, rfl⟩
  have hown : (w1.alloc (.cells #[.string N] 9)).ownsRow W.heap.size 9 1 (.slice (some ⟨w1.heap.size, 0, none⟩) 1 1) 1 [.string N] :=
    ⟨rfl, .inr ⟨w1.heap.size, 1, #[.string N], rfl, by omega, by first | exact heap_alloc_new _ _ | exact World.heap_alloc_new _ _ | simp, Nat.le_refl _, by simp [maxLen], rfl, rfl⟩⟩
  have g1 : (w1.alloc (.cells #[.string N] 9)).cell? ⟨W.heap.size, 2, none⟩ = some (.int .i64 (d : Int)) := by rw [World.cell?_alloc_lt _ _ ⟨W.heap.size, 2, none⟩ z1]; exact a1 2
  have g2 : (w1.alloc (.cells #[.string N] 9)).cell? ⟨W.heap.size, 4, none⟩ = some (.int .i32 (m : Int)) := by rw [World.cell?_alloc_lt _ _ ⟨W.heap.size, 4, none⟩ z1]; exact a1 4
  have hw2l : W.heap.size < (w1.alloc (.cells #[.string N] 9)).heap.size := by simp; omega
  obtain ⟨w2, hw2⟩ : ∃ w2, w1.alloc (.cells #[.string N] 9) = w2 := ⟨_, rfl⟩
  rw [hw2] at g1 g2 hown B2 hw2l
  go_wp2_with fail
  clear hw2 a1 hc1 HT F V I B1
  have G1 : ∀ o, (w2.alloc o).cell? ⟨W.heap.size, 2, none⟩ = some (.int .i64 (d : Int)) := fun o => (World.cell?_alloc_lt _ _ ⟨W.heap.size, 2, none⟩ hw2l).trans g1
  have G2 : ∀ o, (w2.alloc o).cell? ⟨W.heap.size, 4, none⟩ = some (.int .i32 (m : Int)) := fun o => (World.cell?_alloc_lt _ _ ⟨W.heap.size, 4, none⟩ hw2l).trans g2
  have hne : some W.heap.size ≠ Value.ownBlock (.slice (some ⟨w1.heap.size, 0, none⟩) 1 1) := by simp [Value.ownBlock]; omega
  have hone : ∀ u ∈ [Value.string (tag 99 m), .string (tag 114 d)], u.oneCell' = true := by
    intro u hu
    simp only [List.mem_cons, List.not_mem_nil, or_false] at hu
    rcases hu with rfl | rfl <;> rfl
  have hbase : W.heap.size ≤ (w2.alloc (.cells #[.string (tag 99 m), .string (tag 114 d)] 9)).heap.size := by have := B2.out.size; simp; omega
  go_region_held3 (fun w' => w'.cell? ⟨W.heap.size, 2, none⟩ = some (.int .i64 (d : Int)) ∧ w'.cell? ⟨W.heap.size, 4, none⟩ = some (.int .i32 (m : Int))) (first | go_keep | exact ⟨hgrow5.cell (G1 _) hne, hgrow5.cell (G2 _) hne⟩)
    (first
      | (go_at_call 26; refine (hct.out _ (by assumption) _).mono ?_; rintro e w' ⟨rfl, rfl⟩)
      | (go_at_call 25; refine (hrg.out _ (by assumption) _).mono ?_; rintro e w' ⟨rfl, rfl⟩)
      | (refine step_append_lies _ (by rfl) _ _ _ (by rfl) W.heap.size 9 i0x (.string ByteArray.empty) 1 16 Tryz.underlying62 hi hz0 hz1 hz2 (by rfl) (by decide) (.slice (some ⟨w1.heap.size, 0, none⟩) 1 1) 1 [.string N] (by rfl) (hown.alloc _) ⟨w2.heap.size, 0, none⟩ 2 2 [.string (tag 99 m), .string (tag 114 d)] (by rfl) (by rfl) (cells_new3 w2 _ 9) hone (by decide) (by simp [maxLen]) (by decide) hbase (w2.heap.size + 1) (by simp) ?_; intro g cap w5 hown5 hgrow5 hat5 hlt5))
  have B5 : Hid (Below W.heap.size W w5) := Lib.hid (Below.grown (B2.out.alloc B2.out.size _).drew hgrow5 hbase (fun j hj => (hown.lt _ hj).1))
  obtain ⟨g', d', he, hgd, hgl, hgc⟩ := strs_of_row (k := 3) (xs := [N, tag 99 m, tag 114 d]) rfl (by omega) hown5
  cases he
  clear hown5 hgrow5 hat5 hlt5 hown hone hbase G1 G2 g1 g2
  have J := Tryz.strings_Join g 0 cap [N, tag 99 m, tag 114 d] ⟨#[32]⟩ w5 hgc hgl (by simp) hgd ?hlen
  case hlen => rw [List.map_cons, List.map_cons, List.map_cons, List.map_nil, join_three]; simp only [List.length_append, List.length_cons, List.length_nil]; omega
  go_wp2_with fail
  refine J.mono ?_
  rintro e w6 ⟨rfl, hb⟩
  have B6 : Hid (Below W.heap.size W w6) := Lib.hid (B5.out.trans (hb.mono B5.out.size))
  clear hb J
  go_wp2
  go_ret2
  exact ⟨rfl, B6.out⟩
/-- The table of the powers of ten, as the library lays it. -/
def Pw (W : World) : Prop := Lib.TabIs Tryz.prog W "internal/strconv.uint64pow10" .u64 Lib.pow10Tab
theorem below_grow_at (w : World) (k : Nat) (os : Array Obj) : Below w.heap.size w (Go.Sort.grow (w.drewN k) os) := by
  exact Lib.below_grow w.heap.size w (Nat.le_refl _) k os
theorem itoa_at (n : Int) (h0 : -9223372036854775808 ≤ n) (h1 : n ≤ 9223372036854775807) (w : World) (hP : Pw w) :
    Calls Tryz.prog 23 #[.int .i64 n] w fun e w' => e = .returned (.string ⟨(Lib.itoa n).toArray⟩) ∧ Below w.heap.size w w' :=
  (Tryz.strconv_Itoa n h0 h1 w hP).mono fun e w' ⟨he, k, os, hw⟩ => ⟨he, by rw [hw]; exact below_grow_at w k os⟩
end Go.Proofs.YtihnglgknncgpaaGreatDoor.Asm
