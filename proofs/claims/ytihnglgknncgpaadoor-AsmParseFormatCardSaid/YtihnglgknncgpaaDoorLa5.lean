/- The law AsmParseFormat, walked. -/
import Derived.Test.YtihnglgknncgpaaDoorAw
namespace Go.Proofs.YtihnglgknncgpaaDoor.Asm
open Go Go.RowKit Go.Proofs.YtihnglgknncgpaaDoor.PAsmParseFormat Go.Proofs.YtihnglgknncgpaaDoorW.PrintWords Go.Proofs.YtihnglgknncgpaaDoorW.PrintLast Go.Proofs.YtihnglgknncgpaaDoorW.PrintMore Go.Proofs.YtihnglgknncgpaaDoor.Bm Go.Proofs.YtihnglgknncgpaaDoor.Isa
set_option linter.unusedVariables false
set_option linter.unusedSimpArgs false
/-- The two boxes of AsmParseFormat. -/
structure L5 (W0 : World) (i j : In) (W : World) : Prop where
  below : Below W0.heap.size W0 W
  ib : IBox W W0.heap.size i
  jb : IBox W (W0.heap.size + 1) j
theorem L5.later {W0 W W' : World} {i j : In} (h : L5 W0 i j W) (hb : Below W.heap.size W W') : L5 W0 i j W' :=
  ⟨h.below.trans (hb.mono h.below.size), h.ib.kept (grown_of_below hb) (by simp), h.jb.kept (grown_of_below hb) (by simp)⟩
theorem L5.alloc {W0 W : World} {i j : In} (h : L5 W0 i j W) (o : Obj) : L5 W0 i j (W.alloc o) := h.later ((Below.refl _ W).alloc (Nat.le_refl _) o)
theorem l5_start (W : World) (i j : In) : L5 W i j ((W.alloc (.cells #[.int .i64 i.op, .int .i64 i.rd, .int .i64 i.ra, .int .i64 i.rb, .int .i32 i.imm] 31)).alloc (.cells #[.int .i64 j.op, .int .i64 j.rd, .int .i64 j.ra, .int .i64 j.rb, .int .i32 j.imm] 31)) := by
  have z : (W.alloc (.cells #[.int .i64 i.op, .int .i64 i.rd, .int .i64 i.ra, .int .i64 i.rb, .int .i32 i.imm] 31)).heap.size = W.heap.size + 1 := by simp
  refine ⟨((Below.refl _ W).alloc (Nat.le_refl _) _).alloc (by simp) _, ?_, ?_⟩
  · exact (Below.heap_alloc _ _ _ (by simp)).trans (World.alloc_heap_new W _)
  · rw [← z]; exact World.alloc_heap_new _ _
theorem L5.cells {W0 W : World} {i j : In} (h : L5 W0 i j W) :
    (W.cell? ⟨W0.heap.size, 0, none⟩ = some (.int .i64 i.op) ∧ W.cell? ⟨W0.heap.size, 1, none⟩ = some (.int .i64 i.rd) ∧ W.cell? ⟨W0.heap.size, 2, none⟩ = some (.int .i64 i.ra) ∧
      W.cell? ⟨W0.heap.size, 3, none⟩ = some (.int .i64 i.rb) ∧ W.cell? ⟨W0.heap.size, 4, none⟩ = some (.int .i32 i.imm)) ∧
    (W.cell? ⟨W0.heap.size + 1, 0, none⟩ = some (.int .i64 j.op) ∧ W.cell? ⟨W0.heap.size + 1, 1, none⟩ = some (.int .i64 j.rd) ∧ W.cell? ⟨W0.heap.size + 1, 2, none⟩ = some (.int .i64 j.ra) ∧
      W.cell? ⟨W0.heap.size + 1, 3, none⟩ = some (.int .i64 j.rb) ∧ W.cell? ⟨W0.heap.size + 1, 4, none⟩ = some (.int .i32 j.imm)) ∧ W0.heap.size < W.heap.size ∧ W0.heap.size + 1 < W.heap.size :=
  ⟨⟨h.ib.cell 0, h.ib.cell 1, h.ib.cell 2, h.ib.cell 3, h.ib.cell 4⟩, ⟨h.jb.cell 0, h.jb.cell 1, h.jb.cell 2, h.jb.cell 3, h.jb.cell 4⟩, h.ib.lt, h.jb.lt⟩
set_option maxRecDepth 100000 in
set_option maxHeartbeats 8000000 in
theorem law5_walk (i j K : In) (S T U s : ByteArray) (c d g h : Int) (b : Bool) (W : World) (hE : Env W) (hs : s.size ≤ 200)
    (hF1 : ∀ W, Env W → Calls Tryd.prog 10 #[i.v] W fun e w' => e = .returned (.tuple #[.string S, .int .i64 c]) ∧ Below W.heap.size W w')
    (hF2 : ∀ W, Env W → Calls Tryd.prog 10 #[j.v] W fun e w' => e = .returned (.tuple #[.string T, .int .i64 d]) ∧ Below W.heap.size W w')
    (hM : ∀ W, Calls Tryd.prog 11 #[i.v] W fun e w' => e = .returned (.bool b) ∧ Below W.heap.size W w')
    (hP1 : c = 0 → ∀ W, Env W → Calls Tryd.prog 12 #[.string S] W fun e w' => e = .returned (.tuple #[i.v, .int .i64 0]) ∧ Below W.heap.size W w')
    (hP2 : ∀ W, Env W → Calls Tryd.prog 12 #[.string s] W fun e w' => e = .returned (.tuple #[K.v, .int .i64 g]) ∧ Below W.heap.size W w')
    (hF3 : ∀ W, Env W → Calls Tryd.prog 10 #[K.v] W fun e w' => e = .returned (.tuple #[.string U, .int .i64 h]) ∧ Below W.heap.size W w')
    (hc : (c = 1 ∧ b = false) ∨ (c = 0 ∧ b = true ∧ d = 1) ∨ (c = 0 ∧ b = true ∧ d = 0 ∧ S = T ∧ i = j) ∨ (c = 0 ∧ b = true ∧ d = 0 ∧ S ≠ T ∧ i ≠ j))
    (hk : (g = 0 ∧ h = 0 ∧ U = s) ∨ (g = 2 ∧ h = 1 ∧ K = nilI)) :
    Calls Tryd.prog 5 #[i.v, j.v, .string s] W fun e w' => e = .returned (.bool true) ∧ Below W.heap.size W w' := by
  have A := Lib.hid (fun W hE => awake_go W hE)
  have E := Lib.hid hE
  have F1 := Lib.hid hF1
  have F2 := Lib.hid hF2
  have F3 := Lib.hid hF3
  have M := Lib.hid hM
  have P1 := Lib.hid hP1
  have P2 := Lib.hid hP2
  have hk := Lib.hid hk
  have hc := Lib.hid hc
  have hEQ : Hid (∀ e, decide (i = j) = e → ∀ (d : Nat) (w : World), (Op.equalIn (d + 2) 31 i.v j.v).run Tryd.prog w = .ok e w) := Lib.hid (fun e he => eqI_at i j e he)
  have hII := eqI_at i i true (decide_eq_true rfl)
  have hKK : Hid (K = nilI → ∀ (d : Nat) (w : World), (Op.equalIn (d + 2) 31 K.v nilI.v).run Tryd.prog w = .ok true w) := Lib.hid (fun e => eqI_at K nilI true (decide_eq_true e))
  clear hE hF1 hF2 hF3 hM hP1 hP2
  have R0 := Lib.hid (l5_start W i j)
  have i3 : (s.size : Int) ≤ 200 := by omega
  obtain ⟨i0, i1, i2, i3', i4⟩ := i
  obtain ⟨j0, j1, j2, j3, j4⟩ := j
  obtain ⟨k0, k1, k2, k3, k4⟩ := K
  simp only [In.v, nilI] at F1 F2 F3 M P1 P2 hEQ hII hKK R0 ⊢
  go_enter Tryd.func5, Tryd.ntmps5
  go_wp2_with fail
  refine (A.out _ (E.out.later R0.out.below)).mono ?_
  rintro e w1 ⟨rfl, hb⟩
  have R1 := Lib.hid (R0.out.later hb)
  obtain ⟨⟨c0, c1, c2, c3, c4⟩, ⟨d0, d1, d2, d3, d4⟩, l1, l2⟩ := R1.out.cells
  clear hb A R0
  go_wp2_with fail
  refine (F1.out _ (E.out.later R1.out.below)).mono ?_
  rintro e w2 ⟨rfl, hb⟩
  have R2 := Lib.hid (R1.out.later hb)
  clear c0 c1 c2 c3 c4 d0 d1 d2 d3 d4 l1 l2
  obtain ⟨⟨c0, c1, c2, c3, c4⟩, ⟨d0, d1, d2, d3, d4⟩, l1, l2⟩ := R2.out.cells
  clear hb F1 R1
  go_wp2_with fail
  refine (F2.out _ (E.out.later R2.out.below)).mono ?_
  rintro e w3 ⟨rfl, hb⟩
  have R3 := Lib.hid (R2.out.later hb)
  clear c0 c1 c2 c3 c4 d0 d1 d2 d3 d4 l1 l2
  obtain ⟨⟨c0, c1, c2, c3, c4⟩, ⟨d0, d1, d2, d3, d4⟩, l1, l2⟩ := R3.out.cells
  clear hb F2 R2
  go_wp2_with fail
  refine (M.out _).mono ?_
  rintro e w4 ⟨rfl, hb⟩
  have R4 := Lib.hid (R3.out.later hb)
  clear c0 c1 c2 c3 c4 d0 d1 d2 d3 d4 l1 l2
  obtain ⟨⟨c0, c1, c2, c3, c4⟩, ⟨d0, d1, d2, d3, d4⟩, l1, l2⟩ := R4.out.cells
  clear hb M R3
  rcases hc.out with ⟨rfl, rfl⟩ | ⟨rfl, rfl, rfl⟩ | ⟨rfl, rfl, rfl, hST, hij⟩ | ⟨rfl, rfl, rfl, hST, hij⟩
  · -- the first is no instruction
    clear P1 hc hEQ hII
    go_wp2_with fail
    refine (P2.out _ (E.out.later R4.out.below)).mono ?_
    rintro e w6 ⟨rfl, hb⟩
    have B6 := Lib.hid (R4.out.later hb).below
    clear c0 c1 c2 c3 c4 d0 d1 d2 d3 d4 l1 l2 hb R4 P2
    have B6a := Lib.hid (B6.out.alloc B6.out.size (.cells #[.int .i64 k0, .int .i64 k1, .int .i64 k2, .int .i64 k3, .int .i32 k4] 31))
    go_wp2_with fail
    refine (F3.out _ (E.out.later B6a.out)).mono ?_
    rintro e w7 ⟨rfl, hb⟩
    have B7 := Lib.hid (B6a.out.trans (hb.mono B6a.out.size))
    have IK : Hid (IBox w7 w6.heap.size ⟨k0, k1, k2, k3, k4⟩) := Lib.hid ((hb.block _ (by simp)).trans (World.alloc_heap_new w6 _))
    have e0 := IK.out.cell 0
    have e1 := IK.out.cell 1
    have e2 := IK.out.cell 2
    have e3 := IK.out.cell 3
    have e4 := IK.out.cell 4
    simp only [List.getElem?_toArray, List.getElem?_cons_succ, List.getElem?_cons_zero] at e0 e1 e2 e3 e4
    clear hb F3 IK
    rcases hk.out with ⟨rfl, rfl, rfl⟩ | ⟨rfl, rfl, hK⟩
    · clear hk hKK
      go_wp2
      go_ret
      exact ⟨rfl, B7.out⟩
    · have hQ2 := hKK.out hK
      clear hk hKK hK
      go_wp2
      go_ret
      exact ⟨rfl, B7.out⟩
  · clear hc hEQ
    go_wp2_with fail
    refine (P1.out (by first | trivial | rfl) _ (E.out.later R4.out.below)).mono ?_
    rintro e w5 ⟨rfl, hb⟩
    have R5 := Lib.hid (R4.out.later hb)
    clear c0 c1 c2 c3 c4 d0 d1 d2 d3 d4 l1 l2
    obtain ⟨⟨c0, c1, c2, c3, c4⟩, ⟨d0, d1, d2, d3, d4⟩, l1, l2⟩ := R5.out.cells
    clear hb R4 P1
    have R5a := Lib.hid (R5.out.alloc (.cells #[.int .i64 i0, .int .i64 i1, .int .i64 i2, .int .i64 i3', .int .i32 i4] 31))
    go_wp2_with fail
    refine (P2.out _ (E.out.later R5a.out.below)).mono ?_
    rintro e w6 ⟨rfl, hb⟩
    have B6 := Lib.hid (R5a.out.later hb).below
    clear c0 c1 c2 c3 c4 d0 d1 d2 d3 d4 l1 l2 hb R5 R5a P2 hII
    have B6a := Lib.hid (B6.out.alloc B6.out.size (.cells #[.int .i64 k0, .int .i64 k1, .int .i64 k2, .int .i64 k3, .int .i32 k4] 31))
    go_wp2_with fail
    refine (F3.out _ (E.out.later B6a.out)).mono ?_
    rintro e w7 ⟨rfl, hb⟩
    have B7 := Lib.hid (B6a.out.trans (hb.mono B6a.out.size))
    have IK : Hid (IBox w7 w6.heap.size ⟨k0, k1, k2, k3, k4⟩) := Lib.hid ((hb.block _ (by simp)).trans (World.alloc_heap_new w6 _))
    have e0 := IK.out.cell 0
    have e1 := IK.out.cell 1
    have e2 := IK.out.cell 2
    have e3 := IK.out.cell 3
    have e4 := IK.out.cell 4
    simp only [List.getElem?_toArray, List.getElem?_cons_succ, List.getElem?_cons_zero] at e0 e1 e2 e3 e4
    clear hb F3 IK
    rcases hk.out with ⟨rfl, rfl, rfl⟩ | ⟨rfl, rfl, hK⟩
    · clear hk hKK
      go_wp2
      go_ret
      exact ⟨rfl, B7.out⟩
    · have hQ2 := hKK.out hK
      clear hk hKK hK
      go_wp2
      go_ret
      exact ⟨rfl, B7.out⟩
  · have hQ := hEQ.out true (decide_eq_true hij)
    subst hST
    clear hc hEQ hij
    go_wp2_with fail
    refine (P1.out (by first | trivial | rfl) _ (E.out.later R4.out.below)).mono ?_
    rintro e w5 ⟨rfl, hb⟩
    have R5 := Lib.hid (R4.out.later hb)
    clear c0 c1 c2 c3 c4 d0 d1 d2 d3 d4 l1 l2
    obtain ⟨⟨c0, c1, c2, c3, c4⟩, ⟨d0, d1, d2, d3, d4⟩, l1, l2⟩ := R5.out.cells
    clear hb R4 P1
    have R5a := Lib.hid (R5.out.alloc (.cells #[.int .i64 i0, .int .i64 i1, .int .i64 i2, .int .i64 i3', .int .i32 i4] 31))
    go_wp2_with fail
    refine (P2.out _ (E.out.later R5a.out.below)).mono ?_
    rintro e w6 ⟨rfl, hb⟩
    have B6 := Lib.hid (R5a.out.later hb).below
    clear c0 c1 c2 c3 c4 d0 d1 d2 d3 d4 l1 l2 hb R5 R5a P2 hII hQ
    have B6a := Lib.hid (B6.out.alloc B6.out.size (.cells #[.int .i64 k0, .int .i64 k1, .int .i64 k2, .int .i64 k3, .int .i32 k4] 31))
    go_wp2_with fail
    refine (F3.out _ (E.out.later B6a.out)).mono ?_
    rintro e w7 ⟨rfl, hb⟩
    have B7 := Lib.hid (B6a.out.trans (hb.mono B6a.out.size))
    have IK : Hid (IBox w7 w6.heap.size ⟨k0, k1, k2, k3, k4⟩) := Lib.hid ((hb.block _ (by simp)).trans (World.alloc_heap_new w6 _))
    have e0 := IK.out.cell 0
    have e1 := IK.out.cell 1
    have e2 := IK.out.cell 2
    have e3 := IK.out.cell 3
    have e4 := IK.out.cell 4
    simp only [List.getElem?_toArray, List.getElem?_cons_succ, List.getElem?_cons_zero] at e0 e1 e2 e3 e4
    clear hb F3 IK
    rcases hk.out with ⟨rfl, rfl, rfl⟩ | ⟨rfl, rfl, hK⟩
    · clear hk hKK
      go_wp2
      go_ret
      exact ⟨rfl, B7.out⟩
    · have hQ2 := hKK.out hK
      clear hk hKK hK
      go_wp2
      go_ret
      exact ⟨rfl, B7.out⟩
  · have hQ := hEQ.out false (decide_eq_false hij)
    have h1 := toList_ne hST
    have h2 := toList_beq hST
    clear hc hEQ hij hST
    go_wp2_with fail
    refine (P1.out (by first | trivial | rfl) _ (E.out.later R4.out.below)).mono ?_
    rintro e w5 ⟨rfl, hb⟩
    have R5 := Lib.hid (R4.out.later hb)
    clear c0 c1 c2 c3 c4 d0 d1 d2 d3 d4 l1 l2
    obtain ⟨⟨c0, c1, c2, c3, c4⟩, ⟨d0, d1, d2, d3, d4⟩, l1, l2⟩ := R5.out.cells
    clear hb R4 P1
    have R5a := Lib.hid (R5.out.alloc (.cells #[.int .i64 i0, .int .i64 i1, .int .i64 i2, .int .i64 i3', .int .i32 i4] 31))
    go_wp2_with fail
    refine (P2.out _ (E.out.later R5a.out.below)).mono ?_
    rintro e w6 ⟨rfl, hb⟩
    have B6 := Lib.hid (R5a.out.later hb).below
    clear c0 c1 c2 c3 c4 d0 d1 d2 d3 d4 l1 l2 hb R5 R5a P2 hII hQ h1 h2
    have B6a := Lib.hid (B6.out.alloc B6.out.size (.cells #[.int .i64 k0, .int .i64 k1, .int .i64 k2, .int .i64 k3, .int .i32 k4] 31))
    go_wp2_with fail
    refine (F3.out _ (E.out.later B6a.out)).mono ?_
    rintro e w7 ⟨rfl, hb⟩
    have B7 := Lib.hid (B6a.out.trans (hb.mono B6a.out.size))
    have IK : Hid (IBox w7 w6.heap.size ⟨k0, k1, k2, k3, k4⟩) := Lib.hid ((hb.block _ (by simp)).trans (World.alloc_heap_new w6 _))
    have e0 := IK.out.cell 0
    have e1 := IK.out.cell 1
    have e2 := IK.out.cell 2
    have e3 := IK.out.cell 3
    have e4 := IK.out.cell 4
    simp only [List.getElem?_toArray, List.getElem?_cons_succ, List.getElem?_cons_zero] at e0 e1 e2 e3 e4
    clear hb F3 IK
    rcases hk.out with ⟨rfl, rfl, rfl⟩ | ⟨rfl, rfl, hK⟩
    · clear hk hKK
      go_wp2
      go_ret
      exact ⟨rfl, B7.out⟩
    · have hQ2 := hKK.out hK
      clear hk hKK hK
      go_wp2
      go_ret
      exact ⟨rfl, B7.out⟩
set_option maxRecDepth 100000 in
set_option maxHeartbeats 4000000 in
theorem law5_long (i j : In) (s : ByteArray) (W : World) (hE : Env W) (h : 200 < s.size) :
    Calls Tryd.prog 5 #[i.v, j.v, .string s] W fun e w' => e = .returned (.bool true) ∧ Below W.heap.size W w' := by
  have A := Lib.hid (fun W hE => awake_go W hE)
  have E := Lib.hid hE
  have R0 := Lib.hid (l5_start W i j)
  clear hE
  have h' : (200 : Int) < (s.size : Int) := by omega
  obtain ⟨i0, i1, i2, i3', i4⟩ := i
  obtain ⟨j0, j1, j2, j3, j4⟩ := j
  simp only [In.v] at R0 ⊢
  go_enter Tryd.func5, Tryd.ntmps5
  go_wp2_with fail
  refine (A.out _ (E.out.later R0.out.below)).mono ?_
  rintro e w1 ⟨rfl, hb⟩
  have R1 := Lib.hid (R0.out.later hb)
  clear hb R0
  go_wp2_with fail
  refine (A.out _ (E.out.later R1.out.below)).mono ?_
  rintro e w2 ⟨rfl, hb⟩
  have R2 := Lib.hid (R1.out.later hb)
  clear hb
  go_wp2
  go_ret
  exact ⟨rfl, R2.out.below⟩
theorem law5 (i j : In) (s : ByteArray) (W : World) (hE : Env W) (hx : small i.imm) (hy : small j.imm) :
    Calls Tryd.prog 5 #[i.v, j.v, .string s] W fun e w' => e = .returned (.bool true) ∧ Below W.heap.size W w' := by
  by_cases h : 200 < s.size
  · exact law5_long i j s W hE h
  · refine law5_walk i j (parseI s) (fmtS i) (fmtS j) (fmtS (parseI s)) s (fmtE i) (fmtE j) (parseE s) (fmtE (parseI s)) (vld i) W hE (by omega)
      (fun W hE => fmt_go i W hE) (fun W hE => fmt_go j W hE) (fun W => may_at i (vld i) W hx rfl) (fun hc W hE => ?_) (fun W hE => parse_go s W hE (by omega)) (fun W hE => fmt_go _ W hE) ?_ ?_
    · have hv : vld i = true := by
        unfold fmtE at hc
        split at hc
        · assumption
        · cases hc
      have := parse_go (fmtS i) W hE (by
        unfold fmtS
        rw [if_pos hv]
        have := txt_len hv
        rw [Lib.size_eq]
        omega)
      have e : fmtS i = txt i := by unfold fmtS; rw [if_pos hv]
      rw [e] at this ⊢
      rw [(parse_txt hv).1, (parse_txt hv).2] at this
      exact this
    · unfold fmtE fmtS
      cases hv : vld i with
      | false => left; simp
      | true =>
        right
        cases hw : vld j with
        | false => left; simp
        | true =>
          right
          by_cases hij : i = j
          · left; simp [hij]
          · right
            refine ⟨by simp, by simp, by simp, ?_, hij⟩
            simp only [if_true]
            intro e
            apply hij
            rw [← read_txt hv, ← read_txt hw, e]
    · by_cases hp : parseOk s
      · left
        have hv := hp.1
        have e : parseI s = readP s := by unfold parseI; rw [if_pos hp]
        rw [e]
        unfold parseE fmtE fmtS
        rw [if_pos hp, if_pos hv, if_pos hv]
        exact ⟨rfl, rfl, hp.2⟩
      · right
        rw [(parse_no hp).1, (parse_no hp).2]
        exact ⟨rfl, by unfold fmtE; rw [if_neg (by decide)], rfl⟩
end Go.Proofs.YtihnglgknncgpaaDoor.Asm
