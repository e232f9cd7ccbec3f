/- gaolerlaw03.awake, walked: it answers true. -/
import Derived.Test.YtihnglgknncgpaaGreatDoorPl2
import Derived.Test.YtihnglgknncgpaaGreatDoorDisA
namespace Go.Proofs.YtihnglgknncgpaaGreatDoor.Asm
open Go Go.RowKit Go.Proofs.YtihnglgknncgpaaGreatDoor.PAsmEveryWordHasOneLine Go.Proofs.YtihnglgknncgpaaGreatDoorW.PrintWords Go.Proofs.YtihnglgknncgpaaGreatDoorW.PrintLast Go.Proofs.YtihnglgknncgpaaGreatDoorW.PrintMore Go.Proofs.YtihnglgknncgpaaGreatDoor.Bm Go.Proofs.YtihnglgknncgpaaGreatDoor.Isa
set_option linter.unusedVariables false
set_option linter.unusedSimpArgs false
/-- '==' of two instructions. -/
theorem eqA31 (d : Nat) (w : World) (i j : In) : (Op.equalIn (d + 2) 27 i.v j.v).run Tryz.prog w = .ok (decide (i = j)) w := by
  obtain ⟨x0, x1, x2, x3, x4⟩ := i
  obtain ⟨y0, y1, y2, y3, y4⟩ := j
  have e : decide ((⟨x0, x1, x2, x3, x4⟩ : In) = ⟨y0, y1, y2, y3, y4⟩) = (x0 == y0 && (x1 == y1 && (x2 == y2 && (x3 == y3 && x4 == y4)))) := by
    rw [Bool.eq_iff_iff]; simp
  rw [e]
  unfold In.v
  refine eqA_of Tryz.underlying27 (by kernel_rfl) ?_
  refine eqf_cons (by rfl) (by go_simp; rfl) (by go_simp; rfl) (by go_simp) ?_
  refine eqf_cons (by rfl) (by go_simp; rfl) (by go_simp; rfl) (by go_simp) ?_
  refine eqf_cons (by rfl) (by go_simp; rfl) (by go_simp; rfl) (by go_simp) ?_
  refine eqf_cons (by rfl) (by go_simp; rfl) (by go_simp; rfl) (by go_simp) ?_
  exact eqf_last (by rfl) (by go_simp; rfl) (by go_simp; rfl) (by go_simp)
theorem eqI_at (i j : In) (b : Bool) (h : decide (i = j) = b) : ∀ (d : Nat) (w : World), (Op.equalIn (d + 2) 27 i.v j.v).run Tryz.prog w = .ok b w := fun d w => by rw [eqA31, h]
theorem aw1 : vld ⟨9, 1, 2, 0, -1⟩ = true ∧ txt ⟨9, 1, 2, 0, -1⟩ = ⟨#[97, 100, 100, 105, 32, 114, 49, 32, 114, 50, 32, 45, 49]⟩ := by decide +kernel
theorem aw2 : vld ⟨22, 0, 3, 0, 4⟩ = true ∧ txt ⟨22, 0, 3, 0, 4⟩ = ⟨#[99, 115, 114, 119, 32, 99, 52, 32, 114, 51]⟩ := by decide +kernel
theorem parse_txt {i : In} (h : vld i = true) : parseI (txt i) = i ∧ parseE (txt i) = 0 := by
  have hp : parseOk (txt i) := by
    unfold parseOk
    rw [read_txt h]
    exact ⟨h, rfl⟩
  unfold parseI parseE
  rw [if_pos hp, if_pos hp, read_txt h]
  exact ⟨rfl, rfl⟩
theorem parse_no {s : ByteArray} (h : ¬ parseOk s) : parseI s = nilI ∧ parseE s = 2 := by
  unfold parseI parseE
  rw [if_neg h, if_neg h]
  exact ⟨rfl, rfl⟩
theorem parts_four (i : In) : (parts i).length ≤ 4 := by
  unfold parts
  repeat' split
  all_goals simp
theorem aw3 : ¬ parseOk ⟨#[97, 100, 100, 32, 114, 49, 32, 114, 50, 32, 32, 114, 51]⟩ := by
  rintro ⟨hv, ht⟩
  have h1 := pieces_len ⟨#[97, 100, 100, 32, 114, 49, 32, 114, 50, 32, 32, 114, 51]⟩
  have h2 : Lib.countB ⟨#[97, 100, 100, 32, 114, 49, 32, 114, 50, 32, 32, 114, 51]⟩ ⟨#[32]⟩ = 4 := by
    show Lib.count _ [32] = 4
    rw [Lib.count_one]
    decide
  have h3 := pieces_txt hv
  rw [ht] at h3
  have h4 := parts_four (readP ⟨#[97, 100, 100, 32, 114, 49, 32, 114, 50, 32, 32, 114, 51]⟩)
  rw [← h3, h1, h2] at h4
  omega
theorem aw5 : (⟨(disL [1610612736, 0]).toArray⟩ : ByteArray) = ⟨#[104, 97, 108, 116, 10, 119, 111, 114, 100, 32, 48, 48, 48, 48, 48, 48, 48, 48, 10]⟩ := by decide +kernel
theorem aw6 : lineL 1610612736 = [104, 97, 108, 116] := by decide +kernel
theorem aw7 : (⟨(disL [11259375]).toArray⟩ : ByteArray) = ⟨#[119, 111, 114, 100, 32, 48, 48, 97, 98, 99, 100, 101, 102, 10]⟩ := by decide +kernel
theorem aw_two (W : World) (hE : Env W) : Calls Tryz.prog 9 #[.string ⟨#[104, 97, 108, 116, 10, 104, 97, 108, 116]⟩] W fun e w' => e = .returned (.tuple #[.slice none 0 0, .int .i64 2, .int .i64 1]) ∧ Below W.heap.size W w' := by
  have h := asm_go [[104, 97, 108, 116]] [104, 97, 108, 116] (by decide) (by decide) (by decide) W hE
  refine h.mono ?_
  rintro e w' ⟨hb, (⟨ws, p, cap, h1, _⟩ | ⟨k, ⟨ws, h1, h2, h3⟩, rfl⟩)⟩
  · cases h1
  · have hk : k = 1 := by
      rcases h3 with ⟨x, h3, h4⟩ | ⟨h3, _⟩
      · match k, h3 with
        | 0, h3 =>
          simp at h3
          subst h3
          rw [← aw6, one_line (by decide)] at h4
          cases h4
        | k + 1, h3 => simp at h3
      · exact h3
    subst hk
    exact ⟨rfl, hb⟩
theorem ws_new2 (W : World) : Ws (W.alloc (.cells #[.int .u32 1610612736, .int .u32 0] 22)) (some ⟨W.heap.size, 0, none⟩) [1610612736, 0] := by
  intro k x hk
  have hc : ∀ u, [Value.int .u32 1610612736, .int .u32 0][k]? = some u → _ := cells_new3 W [.int .u32 1610612736, .int .u32 0] 22 k
  match k, hk with
  | 0, hk => simp at hk; subst hk; exact ⟨by decide, _, rfl, World.block_lt_of_cell? _ _ (hc _ rfl), hc _ rfl⟩
  | 1, hk => simp at hk; subst hk; exact ⟨by decide, _, rfl, World.block_lt_of_cell? _ _ (hc _ rfl), hc _ rfl⟩
  | k + 2, hk => simp at hk
theorem ws_new1 (W : World) : Ws (W.alloc (.cells #[.int .u32 11259375] 22)) (some ⟨W.heap.size, 0, none⟩) [11259375] := by
  intro k x hk
  have hc : ∀ u, [Value.int .u32 11259375][k]? = some u → _ := cells_new3 W [.int .u32 11259375] 22 k
  match k, hk with
  | 0, hk => simp at hk; subst hk; exact ⟨by decide, _, rfl, World.block_lt_of_cell? _ _ (hc _ rfl), hc _ rfl⟩
  | k + 1, hk => simp at hk
set_option maxRecDepth 100000 in
set_option maxHeartbeats 8000000 in
theorem awake_go (W : World) (hE : Env W) : Calls Tryz.prog 5 #[] W fun e w' => e = .returned (.bool true) ∧ Below W.heap.size W w' := by
  have E := Lib.hid hE
  have F1 := Lib.hid (fun W hE => fmt_go ⟨9, 1, 2, 0, -1⟩ W hE)
  have F2 := Lib.hid (fun W hE => fmt_go nilI W hE)
  have P1 := Lib.hid (fun W hE => parse_go (txt ⟨22, 0, 3, 0, 4⟩) W hE (by rw [aw2.2]; decide))
  have P2 := Lib.hid (fun W hE => parse_go ⟨#[97, 100, 100, 32, 114, 49, 32, 114, 50, 32, 32, 114, 51]⟩ W hE (by decide))
  have A1 := Lib.hid (fun W hE => asm_words [1610612736, 0] (by decide) (by decide) W hE)
  have A2 := Lib.hid (fun W hE => aw_two W hE)
  rw [(parse_txt aw2.1).1, (parse_txt aw2.1).2, aw2.2] at P1
  rw [(parse_no aw3).1, (parse_no aw3).2] at P2
  rw [aw5] at A1
  unfold fmtS fmtE at F1 F2
  rw [if_pos aw1.1, if_pos aw1.1, aw1.2] at F1
  rw [if_neg (by decide), if_neg (by decide)] at F2
  have EQ := eqI_at ⟨22, 0, 3, 0, 4⟩ ⟨22, 0, 3, 0, 4⟩ true (by decide)
  simp only [In.v, nilI, List.length_cons, List.length_nil] at F1 F2 P1 P2 A1 EQ
  clear hE
  go_enter Tryz.func5, Tryz.ntmps5
  go_wp2_with fail
  refine (F1.out _ E.out).mono ?_
  rintro e w1 ⟨rfl, hb⟩
  have B1 := Lib.hid hb
  clear hb F1
  go_wp2_with fail
  refine (P1.out _ (E.out.later B1.out)).mono ?_
  rintro e w2 ⟨rfl, hb⟩
  have B2 := Lib.hid (B1.out.trans (hb.mono B1.out.size))
  clear hb P1
  go_wp2_with fail
  have B2a := Lib.hid (B2.out.alloc B2.out.size (.cells #[.int .i64 22, .int .i64 0, .int .i64 3, .int .i64 0, .int .i32 4] 27))
  refine (P2.out _ (E.out.later B2a.out)).mono ?_
  rintro e w3 ⟨rfl, hb⟩
  have B3 := Lib.hid (B2a.out.trans (hb.mono B2a.out.size))
  have IB : Hid (IBox w3 w2.heap.size ⟨22, 0, 3, 0, 4⟩ ∧ w2.heap.size < w3.heap.size) := Lib.hid ⟨(hb.block _ (by simp)).trans (World.alloc_heap_new w2 _), by have := hb.size; simp at this; omega⟩
  clear hb P2
  go_wp2_with fail
  have B3a := Lib.hid (B3.out.alloc B3.out.size (.cells #[.int .i64 0, .int .i64 0, .int .i64 0, .int .i64 0, .int .i32 0] 27))
  refine (F2.out _ (E.out.later B3a.out)).mono ?_
  rintro e w4 ⟨rfl, hb⟩
  have B4 := Lib.hid (B3a.out.trans (hb.mono B3a.out.size))
  have IB4 : Hid (IBox w4 w2.heap.size ⟨22, 0, 3, 0, 4⟩ ∧ w2.heap.size < w4.heap.size) := Lib.hid ⟨(IB.out.1.kept (World.grownBy_alloc w3 _ none) (by simp)).kept (grown_of_below hb) (by simp), by have := hb.size; have := IB.out.2; simp at *; omega⟩
  clear hb F2 IB
  go_wp2_with fail
  refine (A1.out _ (E.out.later B4.out)).mono ?_
  rintro e w5 ⟨hb, p, cap, rfl, hws⟩
  have B5 := Lib.hid (B4.out.trans (hb.mono B4.out.size))
  have IB5 : Hid (IBox w5 w2.heap.size ⟨22, 0, 3, 0, 4⟩ ∧ w2.heap.size < w5.heap.size) := Lib.hid ⟨IB4.out.1.kept (grown_of_below hb) (by simp), by have := hb.size; have := IB4.out.2; omega⟩
  have WS := Lib.hid hws
  clear hb A1 IB4 hws
  go_wp2_with fail
  refine (A2.out _ (E.out.later B5.out)).mono ?_
  rintro e w6 ⟨rfl, hb⟩
  have B6 := Lib.hid (B5.out.trans (hb.mono B5.out.size))
  have IB6 := Lib.hid (IB5.out.1.kept (grown_of_below hb) (by simp))
  have WS6 := Lib.hid (WS.out.later hb)
  clear hb A2 IB5 WS
  have d0 := IB6.out.cell 0
  have d1 := IB6.out.cell 1
  have d2 := IB6.out.cell 2
  have d3 := IB6.out.cell 3
  have d4 := IB6.out.cell 4
  simp only [List.getElem?_toArray, List.getElem?_cons_succ, List.getElem?_cons_zero] at d0 d1 d2 d3 d4
  have B6a := Lib.hid (B6.out.alloc B6.out.size (.cells #[.int .u32 1610612736, .int .u32 0] 22))
  have WO := words_go [1610612736, 0] [1610612736, 0] p (some ⟨w6.heap.size, 0, none⟩) cap 2 (w6.alloc (.cells #[.int .u32 1610612736, .int .u32 0] 22)) (WS6.out.later ((Below.refl _ _).alloc (Nat.le_refl _) _)) (ws_new2 w6) (by decide) (by decide)
  simp only [List.length_cons, List.length_nil, decide_true] at WO
  go_wp2_with fail
  refine WO.mono ?_
  rintro e w7 ⟨rfl, hb⟩
  have B7 := Lib.hid (B6a.out.trans (hb.mono B6a.out.size))
  have B7a := Lib.hid (B7.out.alloc B7.out.size (.cells #[.int .u32 11259375] 22))
  have D := dis_go [11259375] (by decide) (some ⟨w7.heap.size, 0, none⟩) 1 (w7.alloc (.cells #[.int .u32 11259375] 22)) (E.out.later B7a.out) (ws_new1 w7)
  rw [aw7] at D
  simp only [List.length_cons, List.length_nil] at D
  clear hb WO d0 d1 d2 d3 d4
  go_wp2_with fail
  refine D.mono ?_
  rintro e w8 ⟨rfl, hb⟩
  have B8 := Lib.hid (B7a.out.trans (hb.mono B7a.out.size))
  clear hb D
  go_wp2
  go_ret
  exact ⟨rfl, B8.out⟩
end Go.Proofs.YtihnglgknncgpaaGreatDoor.Asm
