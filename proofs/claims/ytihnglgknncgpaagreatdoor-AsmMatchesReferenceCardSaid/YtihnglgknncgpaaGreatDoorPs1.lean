/- asm.Format and asm.Parse, whole. -/
import Derived.Test.YtihnglgknncgpaaGreatDoorRd4
import Derived.Test.YtihnglgknncgpaaGreatDoorFmtC
namespace Go.Proofs.YtihnglgknncgpaaGreatDoor.Asm
open Go Go.RowKit Go.Proofs.YtihnglgknncgpaaGreatDoor.PAsmEveryWordHasOneLine Go.Proofs.YtihnglgknncgpaaGreatDoorW.PrintWords Go.Proofs.YtihnglgknncgpaaGreatDoorW.PrintLast Go.Proofs.YtihnglgknncgpaaGreatDoorW.PrintMore Go.Proofs.YtihnglgknncgpaaGreatDoor.Bm Go.Proofs.YtihnglgknncgpaaGreatDoor.Isa
set_option linter.unusedVariables false
set_option linter.unusedSimpArgs false
def fmtS (i : In) : ByteArray := if vld i = true then txt i else .empty
def fmtE (i : In) : Int := if vld i = true then 0 else 1
/-- asm.Format. -/
theorem fmt_go (i : In) (W : World) (hE : Env W) :
    Calls Tryz.prog 8 #[i.v] W fun e w' => e = .returned (.tuple #[.string (fmtS i), .int .i64 (fmtE i)]) ∧ Below W.heap.size W w' := by
  unfold fmtS fmtE
  cases hv : vld i with
  | false =>
    simp only [Bool.false_eq_true, if_false]
    exact format_bad i W hE.tabs hv
  | true =>
    simp only [if_true]
    rcases fmt_cases i.op with hf | hf | hf | hf | hf | hf | hf | hf
    · exact absurd hf (vld_parts hv).1
    · exact format_r i W hE.tabs hE.names hv hf
    · exact format_i i W hE.tabs hE.names hE.pw hv hf
    · exact format_u i W hE.tabs hE.names hE.pw hv hf
    · exact format_n i W hE.tabs hE.names hv hf
    · exact format_c i W hE.tabs hE.names hv hf
    · exact format_w i W hE.tabs hE.names hv hf
    · exact format_a i W hE.tabs hE.names hv hf
def parseOk (s : ByteArray) : Prop := vld (readP s) = true ∧ txt (readP s) = s
instance (s : ByteArray) : Decidable (parseOk s) := inferInstanceAs (Decidable (_ ∧ _))
def parseI (s : ByteArray) : In := if parseOk s then readP s else nilI
def parseE (s : ByteArray) : Int := if parseOk s then 0 else 2
theorem toList_ne {a b : ByteArray} (h : a ≠ b) : ¬ a.toList = b.toList := fun e => h (toList_inj e)
theorem res_end12 {wf : World} {b : Nat} {i : In} {tmps : Array Value} {k : Int} {R : Ending → World → Prop} (h : IBox wf b i) (ht : tmps[2]?.getD undef = .pointer (some ⟨b, 0, none⟩)) (hk : tmps[3]?.getD undef = .int .i64 k)
    (hR : R (.returned (.tuple #[i.v, .int .i64 k])) wf) : bodyPost Tryz.prog Tryz.f11 R .ret { tmps := tmps, defers := [] } wf := by
  have c0 := h.cell 0
  have c1 := h.cell 1
  have c2 := h.cell 2
  have c3 := h.cell 3
  have c4 := h.cell 4
  simp only [List.getElem?_toArray, List.getElem?_cons_succ, List.getElem?_cons_zero] at c0 c1 c2 c3 c4
  refine bodyPost_ret (v := .tuple #[i.v, .int .i64 k]) ?_ rfl hR
  simp [results, Tryz.f11, go_sem, ht, hk, c0, c1, c2, c3, c4, In.v]
theorem ibox_all {W : World} {b : Nat} {j : In} (i : In) (h : IBox W b j) {wf : World}
    (hw : wf = ((((W.setCell ⟨b, 0, none⟩ (.int .i64 i.op)).setCell ⟨b, 1, none⟩ (.int .i64 i.rd)).setCell ⟨b, 2, none⟩ (.int .i64 i.ra)).setCell ⟨b, 3, none⟩ (.int .i64 i.rb)).setCell ⟨b, 4, none⟩ (.int .i32 i.imm)) :
    IBox wf b i ∧ Below b W wf := by
  subst hw
  refine ⟨?_, (((((Below.refl b W).setCell (Nat.le_refl _) _).setCell (Nat.le_refl _) _).setCell (Nat.le_refl _) _).setCell (Nat.le_refl _) _).setCell (Nat.le_refl _) _⟩
  have a1 := ibox_set (j := 0) ⟨i.op, j.rd, j.ra, j.rb, j.imm⟩ (.int .i64 i.op) h rfl
  have a2 := ibox_set (j := 1) ⟨i.op, i.rd, j.ra, j.rb, j.imm⟩ (.int .i64 i.rd) a1 rfl
  have a3 := ibox_set (j := 2) ⟨i.op, i.rd, i.ra, j.rb, j.imm⟩ (.int .i64 i.ra) a2 rfl
  have a4 := ibox_set (j := 3) ⟨i.op, i.rd, i.ra, i.rb, j.imm⟩ (.int .i64 i.rb) a3 rfl
  exact ibox_set (j := 4) i (.int .i32 i.imm) a4 rfl
theorem toList_beq {a b : ByteArray} (h : a ≠ b) : (a.toList == b.toList) = false := beq_eq_false_iff_ne.2 (toList_ne h)
set_option maxRecDepth 100000 in
set_option maxHeartbeats 4000000 in
theorem parse_walk (s : ByteArray) (W : World) (hE : Env W) (hs : s.size < 4294967281) (i : In) (hi : readP s = i) (S : ByteArray) (c : Int) (hF : ∀ W, Env W → Calls Tryz.prog 8 #[i.v] W fun e w' => e = .returned (.tuple #[.string S, .int .i64 c]) ∧ Below W.heap.size W w')
    (I : In) (d : Int) (hI : (c = 0 ∧ S = s ∧ I = i ∧ d = 0) ∨ (c = 1 ∧ I = nilI ∧ d = 2) ∨ (c = 0 ∧ S ≠ s ∧ I = nilI ∧ d = 2)) :
    Calls Tryz.prog 11 #[.string s] W fun e w' => e = .returned (.tuple #[I.v, .int .i64 d]) ∧ Below W.heap.size W w' := by
  have E := Lib.hid hE
  have R := read_any s (W.alloc (.cells zeros 27)) (hE.later ((Below.refl _ W).alloc (Nat.le_refl _) _)) hs
  rw [hi] at R
  have F := Lib.hid hF
  clear hi hF hE
  have hI := Lib.hid hI
  obtain ⟨i0, i1, i2, i3, i4⟩ := i
  simp only [In.v, zeros] at R F
  go_enter Tryz.func11, Tryz.ntmps11
  go_wp2_with fail
  refine R.mono ?_
  rintro e w1 ⟨rfl, hb⟩
  have B1 : Hid (Below W.heap.size W w1) := Lib.hid (((Below.refl _ W).alloc (Nat.le_refl _) _).trans (hb.mono (by simp)))
  have IR : Hid (IBox w1 W.heap.size nilI) := Lib.hid ((hb.block _ (by simp)).trans (World.alloc_heap_new W _))
  clear R hb
  go_wp2_with fail
  refine (F.out _ (E.out.later (B1.out.alloc B1.out.size _))).mono ?_
  rintro e w2 ⟨rfl, hb⟩
  have B2 : Hid (Below W.heap.size W w2) := Lib.hid (B1.out.trans ((((Below.refl w1.heap.size w1).alloc (Nat.le_refl _) _).trans (hb.mono (by simp))).mono B1.out.size))
  have IL : Hid (IBox w2 w1.heap.size ⟨i0, i1, i2, i3, i4⟩) := Lib.hid ((hb.block _ (by simp)).trans (World.alloc_heap_new w1 _))
  have IR2 : Hid (IBox w2 W.heap.size nilI) := Lib.hid ((IR.out.kept (World.grownBy_alloc w1 _ none) (by simp)).kept (grown_of_below hb) (by simp))
  have hfr := IR2.out.frozen
  have r0 := IR2.out.cell 0
  have r1 := IR2.out.cell 1
  have r2 := IR2.out.cell 2
  have r3 := IR2.out.cell 3
  have r4 := IR2.out.cell 4
  have d0 := IL.out.cell 0
  have d1 := IL.out.cell 1
  have d2 := IL.out.cell 2
  have d3 := IL.out.cell 3
  have d4 := IL.out.cell 4
  simp only [List.getElem?_toArray, List.getElem?_cons_succ, List.getElem?_cons_zero, nilI] at r0 r1 r2 r3 r4 d0 d1 d2 d3 d4
  clear hb IR B1 F E IL
  rcases hI.out with ⟨rfl, rfl, rfl, rfl⟩ | ⟨rfl, rfl, rfl⟩ | ⟨rfl, hne, rfl, rfl⟩
  · clear hI
    go_wp2
    obtain ⟨x1, x2⟩ := ibox_all ⟨i0, i1, i2, i3, i4⟩ IR2.out rfl
    exact res_end12 x1 rfl rfl ⟨rfl, B2.out.trans x2⟩
  · clear hI
    go_wp2
    obtain ⟨x1, x2⟩ := ibox_all nilI IR2.out rfl
    exact res_end12 x1 rfl rfl ⟨rfl, B2.out.trans x2⟩
  · clear hI
    have hne' := toList_beq hne
    clear hne
    go_wp2
    obtain ⟨x1, x2⟩ := ibox_all nilI IR2.out rfl
    exact res_end12 x1 rfl rfl ⟨rfl, B2.out.trans x2⟩
/-- asm.Parse. -/
theorem parse_go (s : ByteArray) (W : World) (hE : Env W) (hs : s.size < 4294967281) :
    Calls Tryz.prog 11 #[.string s] W fun e w' => e = .returned (.tuple #[(parseI s).v, .int .i64 (parseE s)]) ∧ Below W.heap.size W w' := by
  refine parse_walk s W hE hs (readP s) rfl (fmtS (readP s)) (fmtE (readP s)) (fun W hE => fmt_go _ W hE) _ _ ?_
  unfold parseI parseE fmtS fmtE
  by_cases hv : vld (readP s) = true
  · simp only [if_pos hv]
    by_cases ht : txt (readP s) = s
    · have hp : parseOk s := ⟨hv, ht⟩
      simp only [if_pos hp]
      exact .inl ⟨by first | rfl | trivial, ht, by first | rfl | trivial, by first | rfl | trivial⟩
    · have hp : ¬ parseOk s := fun h => ht h.2
      simp only [if_neg hp]
      exact .inr (.inr ⟨by first | rfl | trivial, ht, by first | rfl | trivial, by first | rfl | trivial⟩)
  · have hp : ¬ parseOk s := fun h => hv h.1
    simp only [if_neg hv, if_neg hp]
    exact .inr (.inl ⟨by first | rfl | trivial, by first | rfl | trivial, by first | rfl | trivial⟩)
end Go.Proofs.YtihnglgknncgpaaGreatDoor.Asm
