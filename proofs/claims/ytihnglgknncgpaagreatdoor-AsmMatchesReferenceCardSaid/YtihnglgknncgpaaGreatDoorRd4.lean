/- asm.read, walked. -/
import Derived.Test.YtihnglgknncgpaaGreatDoorRdA
namespace Go.Proofs.YtihnglgknncgpaaGreatDoor.Asm
open Go Go.RowKit Go.Proofs.YtihnglgknncgpaaGreatDoor.PAsmEveryWordHasOneLine Go.Proofs.YtihnglgknncgpaaGreatDoorW.PrintWords Go.Proofs.YtihnglgknncgpaaGreatDoorW.PrintLast Go.Proofs.YtihnglgknncgpaaGreatDoorW.PrintMore Go.Proofs.YtihnglgknncgpaaGreatDoor.Bm Go.Proofs.YtihnglgknncgpaaGreatDoor.Isa
set_option linter.unusedVariables false
set_option linter.unusedSimpArgs false
theorem toList_inj {a b : ByteArray} (h : a.toList = b.toList) : a = b := by
  rw [ByteArray.toList_eq, ByteArray.toList_eq] at h
  exact ByteArray.ext (Array.ext' h)
theorem RSt.cells {W0 W : World} {xs : List ByteArray} {i : In} {b : Nat} (h : RSt W0 xs i W) (hb : W0.heap.size = b) :
    (W.cell? ⟨b + 1 + 1 + 1 + 1, 0, none⟩ = some (.int .i64 i.op) ∧ W.cell? ⟨b + 1 + 1 + 1 + 1, 1, none⟩ = some (.int .i64 i.rd) ∧ W.cell? ⟨b + 1 + 1 + 1 + 1, 2, none⟩ = some (.int .i64 i.ra) ∧
      W.cell? ⟨b + 1 + 1 + 1 + 1, 3, none⟩ = some (.int .i64 i.rb) ∧ W.cell? ⟨b + 1 + 1 + 1 + 1, 4, none⟩ = some (.int .i32 i.imm)) ∧
    (W.cell? ⟨b, 0, none⟩ = some (.int .i64 0) ∧ W.cell? ⟨b, 1, none⟩ = some (.int .i64 0) ∧ W.cell? ⟨b, 2, none⟩ = some (.int .i64 0) ∧ W.cell? ⟨b, 3, none⟩ = some (.int .i64 0) ∧ W.cell? ⟨b, 4, none⟩ = some (.int .i32 0)) ∧
    (∀ j, W.frozen? ⟨b + 1 + 1 + 1 + 1, j, none⟩ = false) ∧ ∀ j, W.frozen? ⟨b, j, none⟩ = false := by
  subst hb
  exact ⟨⟨h.ib.cell 0, h.ib.cell 1, h.ib.cell 2, h.ib.cell 3, h.ib.cell 4⟩, ⟨h.res.cell 0, h.res.cell 1, h.res.cell 2, h.res.cell 3, h.res.cell 4⟩, h.ib.frozen, h.res.frozen⟩
/-- What asm.read reads. -/
def readP (s : ByteArray) : In :=
  let l := pieces s
  let op : Int := (opTo (l.headD .empty) 26 : Nat)
  if fmt op = 1 then ⟨op, regV (l.tail.headD .empty), regV (l.tail.tail.headD .empty), regV (l.tail.tail.tail.headD .empty), 0⟩
  else if fmt op = 2 then ⟨op, regV (l.tail.headD .empty), regV (l.tail.tail.headD .empty), 0, immV (l.tail.tail.tail.headD .empty)⟩
  else if fmt op = 3 then ⟨op, regV (l.tail.headD .empty), 0, 0, immV (l.tail.tail.headD .empty)⟩
  else if fmt op = 5 then ⟨op, regV (l.tail.headD .empty), 0, 0, csrV (l.tail.tail.headD .empty)⟩
  else if fmt op = 6 then ⟨op, 0, regV (l.tail.tail.headD .empty), 0, csrV (l.tail.headD .empty)⟩
  else if fmt op = 7 then ⟨op, 0, regV (l.tail.headD .empty), 0, 0⟩
  else ⟨op, 0, 0, 0, 0⟩
theorem rst_fin {W0 W : World} {xs : List ByteArray} {i : In} {b : Nat} (h : RSt W0 xs i W) (hb : W0.heap.size = b) {wf : World}
    (hw : wf = ((((W.setCell ⟨b, 0, none⟩ (.int .i64 i.op)).setCell ⟨b, 1, none⟩ (.int .i64 i.rd)).setCell ⟨b, 2, none⟩ (.int .i64 i.ra)).setCell ⟨b, 3, none⟩ (.int .i64 i.rb)).setCell ⟨b, 4, none⟩ (.int .i32 i.imm)) :
    IBox wf b i ∧ Below W0.heap.size W0 wf := by
  subst hb
  subst hw
  refine ⟨?_, ((((h.below.setCell (Nat.le_refl _) _).setCell (Nat.le_refl _) _).setCell (Nat.le_refl _) _).setCell (Nat.le_refl _) _).setCell (Nat.le_refl _) _⟩
  have a1 := ibox_set (j := 0) ⟨i.op, 0, 0, 0, 0⟩ (.int .i64 i.op) h.res rfl
  have a2 := ibox_set (j := 1) ⟨i.op, i.rd, 0, 0, 0⟩ (.int .i64 i.rd) a1 rfl
  have a3 := ibox_set (j := 2) ⟨i.op, i.rd, i.ra, 0, 0⟩ (.int .i64 i.ra) a2 rfl
  have a4 := ibox_set (j := 3) ⟨i.op, i.rd, i.ra, i.rb, 0⟩ (.int .i64 i.rb) a3 rfl
  exact ibox_set (j := 4) i (.int .i32 i.imm) a4 rfl
theorem read_end {W wf : World} {b : Nat} {i : In} {tmps : Array Value} (h : IBox wf b i) (hB : Below W.heap.size W wf) (ht : tmps[2]?.getD undef = .pointer (some ⟨b, 0, none⟩)) :
    bodyPost Tryz.prog Tryz.f36 (fun e w' => e = Ending.returned i.v ∧ Below W.heap.size W w') .ret { tmps := tmps, defers := [] } wf := by
  have c0 := h.cell 0
  have c1 := h.cell 1
  have c2 := h.cell 2
  have c3 := h.cell 3
  have c4 := h.cell 4
  simp only [List.getElem?_toArray, List.getElem?_cons_succ, List.getElem?_cons_zero] at c0 c1 c2 c3 c4
  refine bodyPost_ret (v := i.v) ?_ rfl ⟨rfl, hB⟩
  simp [results, Tryz.f36, go_sem, ht, c0, c1, c2, c3, c4, In.v]
theorem RSt.put {W0 W : World} {xs : List ByteArray} {i : In} {b : Nat} (h : RSt W0 xs i W) (hb : W0.heap.size = b) (i' : In) (j : Nat) (v : Value)
    (he : (#[.int .i64 i.op, .int .i64 i.rd, .int .i64 i.ra, .int .i64 i.rb, .int .i32 i.imm] : Array Value).setIfInBounds j v = #[.int .i64 i'.op, .int .i64 i'.rd, .int .i64 i'.ra, .int .i64 i'.rb, .int .i32 i'.imm]) : RSt W0 xs i' (W.setCell ⟨b + 1 + 1 + 1 + 1, j, none⟩ v) := by
  subst hb
  exact h.set i' j v he
theorem head_le {xs : List ByteArray} {n : Nat} (h : ∀ x ∈ xs, x.size ≤ n) : (xs.headD .empty).size ≤ n := by
  cases xs with
  | nil => exact Nat.zero_le _
  | cons x xs => exact h x List.mem_cons_self
theorem tail_le {xs : List ByteArray} {n : Nat} (h : ∀ x ∈ xs, x.size ≤ n) : ∀ x ∈ xs.tail, x.size ≤ n := fun x hx => h x (List.mem_of_mem_tail hx)
theorem reg_step {W0 W : World} {xs : List ByteArray} {i : In} {b : Nat} (h : RSt W0 xs i W) (hE : Env W0) (hb : W0.heap.size = b) (hx : ∀ x ∈ xs, x.size ≤ 281474976710656) :
    Calls Tryz.prog 60 #[.pointer (some ⟨b + 1 + 1 + 1, 0, none⟩)] W fun e w' => e = .returned (.int .i64 (regV (xs.headD .empty))) ∧ RSt W0 xs.tail i w' := by
  subst hb
  exact (reg_at _ _ _ xs W (h.env hE) h.l h.wd (by have := hE.size; omega) (head_le hx)).mono fun e w' ⟨a, b, c⟩ => ⟨a, h.grown b c⟩
theorem number_step {W0 W : World} {xs : List ByteArray} {i : In} {b : Nat} (h : RSt W0 xs i W) (hE : Env W0) (hb : W0.heap.size = b) (hx : ∀ x ∈ xs, x.size ≤ 281474976710656) :
    Calls Tryz.prog 62 #[.pointer (some ⟨b + 1 + 1 + 1, 0, none⟩)] W fun e w' => e = .returned (.int .i32 (immV (xs.headD .empty))) ∧ RSt W0 xs.tail i w' := by
  subst hb
  exact (number_at _ _ _ xs W (h.env hE) h.l h.wd (by have := hE.size; omega) (head_le hx)).mono fun e w' ⟨a, b, c⟩ => ⟨a, h.grown b c⟩
theorem csr_step {W0 W : World} {xs : List ByteArray} {i : In} {b : Nat} (h : RSt W0 xs i W) (hE : Env W0) (hb : W0.heap.size = b) (hx : ∀ x ∈ xs, x.size ≤ 281474976710656) :
    Calls Tryz.prog 64 #[.pointer (some ⟨b + 1 + 1 + 1, 0, none⟩)] W fun e w' => e = .returned (.int .i32 (csrV (xs.headD .empty))) ∧ RSt W0 xs.tail i w' := by
  subst hb
  exact (csr_at _ _ _ xs W (h.env hE) h.l h.wd (by have := hE.size; omega) (head_le hx)).mono fun e w' ⟨a, b, c⟩ => ⟨a, h.grown b c⟩
set_option maxRecDepth 100000 in
set_option maxHeartbeats 8000000 in
theorem read_any (s : ByteArray) (W : World) (hE : Env W) (hs : s.size < 4294967281) :
    Calls Tryz.prog 36 #[.string s] W fun e w' => e = .returned (readP s).v ∧ Below W.heap.size W w' := by
  have E := Lib.hid hE
  have hSz : Hid (∀ x ∈ pieces s, x.size ≤ 281474976710656) := Lib.hid (pieces_size s _ (by omega))
  obtain ⟨I, hI0⟩ : ∃ I, readP s = I := ⟨_, rfl⟩
  have hRP : Hid (readP s = I) := Lib.hid hI0
  rw [hI0]
  clear hI0
  obtain ⟨ml, hml⟩ := hE.ml
  have S := Tryz.strings_Split s ⟨#[32]⟩ ml (W.alloc (.cells #[.int .i64 0, .int .i64 0, .int .i64 0, .int .i64 0, .int .i32 0] 27)) hs ((World.cell?_alloc_lt W _ ⟨4, 0, none⟩ (by have := hE.size; show 4 < _; omega)).trans hml) (by decide)
  clear hml hE
  go_enter Tryz.func36, Tryz.ntmps36
  go_wp2_with fail
  refine S.mono ?_
  rintro e w1 ⟨rfl, rfl⟩
  go_wp2_with fail
  have R0 := rst_start W s
  refine (pop_at _ _ _ _ R0.l).mono ?_
  rintro e w1 ⟨rfl, hL, hG⟩
  have R1 := Lib.hid (R0.grown hL hG)
  have E1 := Lib.hid (R1.out.env E.out)
  clear R0 hL hG S
  obtain ⟨n, hn⟩ : ∃ n, (pieces s).headD .empty = n := ⟨_, rfl⟩
  rw [hn]
  obtain ⟨xs, hxs⟩ : ∃ xs, (pieces s).tail = xs := ⟨_, rfl⟩
  rw [hxs] at R1
  have hNR := Lib.hid E1.out.names.range
  have HX := Lib.hid (fun w k hk => index_names w k hk)
  have hi56 := info56
  obtain ⟨NL, hNL⟩ : ∃ NL, nmv = NL := ⟨_, rfl⟩
  rw [hNL] at HX hi56 hNR
  clear hNL
  obtain ⟨b, hb⟩ : ∃ b, W.heap.size = b := ⟨_, rfl⟩
  go_wp2_with (refine wpList_load_mid rfl 61 (.global 0) rfl 0 0 rfl NL _ hNR.out Tryz.underlying61 rfl hi56 ?_)
  go_loopw [21] (fun i wr => ∃ k : Nat, k ≤ 26 ∧ i = .int .i64 (k : Int) ∧ RSt W xs ⟨opTo n k, 0, 0, 0, 0⟩ wr) (fun i _ => 26 - (intOf i).toNat)
  case atStart => exact ⟨0, by omega, rfl, R1.out⟩
  case round =>
    obtain ⟨k, hk, rfl, hR⟩ := hrel
    have c0 := hR.ib.cell 0
    have f0 := hR.ib.frozen 0
    simp only [hb, List.getElem?_toArray, List.getElem?_cons_zero] at c0 f0
    by_cases hk26 : k < 26
    · have q1 : (k : Int) < 26 := by omega
      have q2 : (0 : Int) ≤ (k : Int) := by omega
      have hx := fun w => HX.out w k hk26
      have ho : Hid (opTo n (k + 1) = if nm (k : Int) = n ∧ nm (k : Int) ≠ .empty then k else opTo n k) := Lib.hid rfl
      obtain ⟨N, hN⟩ : ∃ N, nm (k : Int) = N := ⟨_, rfl⟩
      rw [hN] at hx ho
      clear hN hn
      by_cases h1 : N = n
      · subst h1
        by_cases h2 : N = .empty
        · have h2' : N.toList.isEmpty = true := (by rw [← decide_eq_emptyBytes, h2]; exact decide_eq_true rfl)
          have ho' : Hid (opTo N (k + 1) = opTo N k) := Lib.hid (by rw [ho.out, if_neg (fun h => h.2 h2)])
          clear ho h2
          have hR := Lib.hid hR
          go_wp2
          go_roundw
          case rel => exact ⟨k + 1, by omega, by go_num, by rw [ho'.out]; exact hR.out⟩
          case measure => simp [intOf]; omega
        · have h2' : N.toList.isEmpty = false := (by rw [← decide_eq_emptyBytes]; exact decide_eq_false h2)
          have ho' : Hid (opTo N (k + 1) = k) := Lib.hid (by rw [ho.out, if_pos ⟨rfl, h2⟩])
          clear ho
          have hR' : Hid (RSt W xs ⟨opTo N (k + 1), 0, 0, 0, 0⟩ (wr.setCell ⟨b + 1 + 1 + 1 + 1, 0, none⟩ (.int .i64 k))) := Lib.hid (by rw [ho'.out, ← hb]; exact hR.set ⟨k, 0, 0, 0, 0⟩ 0 _ rfl)
          clear hR ho' h2
          go_wp2
          go_roundw
          case rel => exact ⟨k + 1, by omega, by go_num, hR'.out⟩
          case measure => simp [intOf]; omega
      · have h1' : ¬ N.toList = n.toList := fun h => h1 (toList_inj h)
        have ho' : Hid (opTo n (k + 1) = opTo n k) := Lib.hid (by rw [ho.out, if_neg (fun h => h1 h.1)])
        clear ho h1
        have hR := Lib.hid hR
        go_wp2
        go_roundw
        case rel => exact ⟨k + 1, by omega, by go_num, by rw [ho'.out]; exact hR.out⟩
        case measure => simp [intOf]; omega
    · obtain rfl : k = 26 := by omega
      obtain ⟨op, hop⟩ : ∃ op : Nat, opTo n 26 = op := ⟨_, rfl⟩
      rw [hop] at hR c0
      have R2 := Lib.hid hR
      have E2 := Lib.hid (R2.out.env E.out)
      have F := Lib.hid (fun f hf => format_at (op : Int) f wr E2.out.tabs hf)
      obtain ⟨⟨d0, d1, d2, d3, d4⟩, ⟨r0, r1, r2, r3, r4⟩, fi, fr⟩ := R2.out.cells hb
      clear hR f0 c0 HX hNR hi56 R1
      have hX : Hid (∀ x ∈ xs, x.size ≤ 281474976710656) := Lib.hid (by rw [← hxs]; exact tail_le hSz.out)
      rcases fmt_cases (op : Int) with hf | hf | hf | hf | hf | hf | hf | hf
      · have F := Lib.hid (F.out _ hf)
        obtain rfl : I = ⟨(op : Int), 0, 0, 0, 0⟩ := by
          rw [← hRP.out]
          unfold readP
          simp only [hn, hop, hxs, hf]
          simp
        clear hRP
        go_wp2_with fail
        refine F.out.mono ?_
        rintro e w2 ⟨rfl, rfl⟩
        go_wp2
        obtain ⟨hI, hB⟩ := rst_fin R2.out hb rfl
        exact read_end hI hB rfl
      · have F := Lib.hid (F.out _ hf)
        obtain ⟨x0, hx0⟩ : ∃ x, regV (xs.headD .empty) = x := ⟨_, rfl⟩
        obtain ⟨x1, hx1⟩ : ∃ x, regV (xs.tail.headD .empty) = x := ⟨_, rfl⟩
        obtain ⟨x2, hx2⟩ : ∃ x, regV (xs.tail.tail.headD .empty) = x := ⟨_, rfl⟩
        obtain rfl : I = ⟨(op : Int), x0, x1, x2, 0⟩ := by
          rw [← hRP.out]
          unfold readP
          simp only [hn, hop, hxs, hf, hx0, hx1, hx2]
          simp
        clear hRP
        have hx0 := Lib.hid hx0
        have hx1 := Lib.hid hx1
        have hx2 := Lib.hid hx2
        clear d1 d2 d3 d4 r0 r1 r2 r3 r4 fi fr
        go_wp2_with fail
        refine F.out.mono ?_
        rintro e w2 ⟨rfl, rfl⟩
        clear F d0
        have C0 := reg_step R2.out E.out hb hX.out
        rw [hx0.out] at C0
        go_wp2_with fail
        refine C0.mono ?_
        rintro e v0 ⟨rfl, Q0⟩
        have S0 := Lib.hid Q0
        clear Q0 C0
        have C1 := reg_step S0.out E.out hb (tail_le hX.out)
        rw [hx1.out] at C1
        go_wp2_with fail
        refine C1.mono ?_
        rintro e v1 ⟨rfl, Q1⟩
        have S1 := Lib.hid Q1
        clear Q1 C1
        have C2 := reg_step S1.out E.out hb (tail_le (tail_le hX.out))
        rw [hx2.out] at C2
        go_wp2_with fail
        refine C2.mono ?_
        rintro e v2 ⟨rfl, Q2⟩
        have S2 := Lib.hid Q2
        clear Q2 C2
        obtain ⟨⟨d0, d1, d2, d3, d4⟩, ⟨r0, r1, r2, r3, r4⟩, fi, fr⟩ := S2.out.cells hb
        have RF := Lib.hid (((S2.out.put hb ⟨(op : Int), x0, 0, 0, 0⟩ 1 (.int .i64 x0) rfl).put hb ⟨(op : Int), x0, x1, 0, 0⟩ 2 (.int .i64 x1) rfl).put hb ⟨(op : Int), x0, x1, x2, 0⟩ 3 (.int .i64 x2) rfl)
        go_wp2
        obtain ⟨hI, hB⟩ := rst_fin RF.out hb rfl
        exact read_end hI hB rfl
      · have F := Lib.hid (F.out _ hf)
        obtain ⟨x0, hx0⟩ : ∃ x, regV (xs.headD .empty) = x := ⟨_, rfl⟩
        obtain ⟨x1, hx1⟩ : ∃ x, regV (xs.tail.headD .empty) = x := ⟨_, rfl⟩
        obtain ⟨x2, hx2⟩ : ∃ x, immV (xs.tail.tail.headD .empty) = x := ⟨_, rfl⟩
        obtain rfl : I = ⟨(op : Int), x0, x1, 0, x2⟩ := by
          rw [← hRP.out]
          unfold readP
          simp only [hn, hop, hxs, hf, hx0, hx1, hx2]
          simp
        clear hRP
        have hx0 := Lib.hid hx0
        have hx1 := Lib.hid hx1
        have hx2 := Lib.hid hx2
        clear d1 d2 d3 d4 r0 r1 r2 r3 r4 fi fr
        go_wp2_with fail
        refine F.out.mono ?_
        rintro e w2 ⟨rfl, rfl⟩
        clear F d0
        have C0 := reg_step R2.out E.out hb hX.out
        rw [hx0.out] at C0
        go_wp2_with fail
        refine C0.mono ?_
        rintro e v0 ⟨rfl, Q0⟩
        have S0 := Lib.hid Q0
        clear Q0 C0
        have C1 := reg_step S0.out E.out hb (tail_le hX.out)
        rw [hx1.out] at C1
        go_wp2_with fail
        refine C1.mono ?_
        rintro e v1 ⟨rfl, Q1⟩
        have S1 := Lib.hid Q1
        clear Q1 C1
        have C2 := number_step S1.out E.out hb (tail_le (tail_le hX.out))
        rw [hx2.out] at C2
        go_wp2_with fail
        refine C2.mono ?_
        rintro e v2 ⟨rfl, Q2⟩
        have S2 := Lib.hid Q2
        clear Q2 C2
        obtain ⟨⟨d0, d1, d2, d3, d4⟩, ⟨r0, r1, r2, r3, r4⟩, fi, fr⟩ := S2.out.cells hb
        have RF := Lib.hid (((S2.out.put hb ⟨(op : Int), x0, 0, 0, 0⟩ 1 (.int .i64 x0) rfl).put hb ⟨(op : Int), x0, x1, 0, 0⟩ 2 (.int .i64 x1) rfl).put hb ⟨(op : Int), x0, x1, 0, x2⟩ 4 (.int .i32 x2) rfl)
        go_wp2
        obtain ⟨hI, hB⟩ := rst_fin RF.out hb rfl
        exact read_end hI hB rfl
      · have F := Lib.hid (F.out _ hf)
        obtain ⟨x0, hx0⟩ : ∃ x, regV (xs.headD .empty) = x := ⟨_, rfl⟩
        obtain ⟨x1, hx1⟩ : ∃ x, immV (xs.tail.headD .empty) = x := ⟨_, rfl⟩
        obtain rfl : I = ⟨(op : Int), x0, 0, 0, x1⟩ := by
          rw [← hRP.out]
          unfold readP
          simp only [hn, hop, hxs, hf, hx0, hx1]
          simp
        clear hRP
        have hx0 := Lib.hid hx0
        have hx1 := Lib.hid hx1
        clear d1 d2 d3 d4 r0 r1 r2 r3 r4 fi fr
        go_wp2_with fail
        refine F.out.mono ?_
        rintro e w2 ⟨rfl, rfl⟩
        clear F d0
        have C0 := reg_step R2.out E.out hb hX.out
        rw [hx0.out] at C0
        go_wp2_with fail
        refine C0.mono ?_
        rintro e v0 ⟨rfl, Q0⟩
        have S0 := Lib.hid Q0
        clear Q0 C0
        have C1 := number_step S0.out E.out hb (tail_le hX.out)
        rw [hx1.out] at C1
        go_wp2_with fail
        refine C1.mono ?_
        rintro e v1 ⟨rfl, Q1⟩
        have S1 := Lib.hid Q1
        clear Q1 C1
        obtain ⟨⟨d0, d1, d2, d3, d4⟩, ⟨r0, r1, r2, r3, r4⟩, fi, fr⟩ := S1.out.cells hb
        have RF := Lib.hid ((S1.out.put hb ⟨(op : Int), x0, 0, 0, 0⟩ 1 (.int .i64 x0) rfl).put hb ⟨(op : Int), x0, 0, 0, x1⟩ 4 (.int .i32 x1) rfl)
        go_wp2
        obtain ⟨hI, hB⟩ := rst_fin RF.out hb rfl
        exact read_end hI hB rfl
      · have F := Lib.hid (F.out _ hf)
        obtain rfl : I = ⟨(op : Int), 0, 0, 0, 0⟩ := by
          rw [← hRP.out]
          unfold readP
          simp only [hn, hop, hxs, hf]
          simp
        clear hRP
        go_wp2_with fail
        refine F.out.mono ?_
        rintro e w2 ⟨rfl, rfl⟩
        go_wp2
        obtain ⟨hI, hB⟩ := rst_fin R2.out hb rfl
        exact read_end hI hB rfl
      · have F := Lib.hid (F.out _ hf)
        obtain ⟨x0, hx0⟩ : ∃ x, regV (xs.headD .empty) = x := ⟨_, rfl⟩
        obtain ⟨x1, hx1⟩ : ∃ x, csrV (xs.tail.headD .empty) = x := ⟨_, rfl⟩
        obtain rfl : I = ⟨(op : Int), x0, 0, 0, x1⟩ := by
          rw [← hRP.out]
          unfold readP
          simp only [hn, hop, hxs, hf, hx0, hx1]
          simp
        clear hRP
        have hx0 := Lib.hid hx0
        have hx1 := Lib.hid hx1
        clear d1 d2 d3 d4 r0 r1 r2 r3 r4 fi fr
        go_wp2_with fail
        refine F.out.mono ?_
        rintro e w2 ⟨rfl, rfl⟩
        clear F d0
        have C0 := reg_step R2.out E.out hb hX.out
        rw [hx0.out] at C0
        go_wp2_with fail
        refine C0.mono ?_
        rintro e v0 ⟨rfl, Q0⟩
        have S0 := Lib.hid Q0
        clear Q0 C0
        have C1 := csr_step S0.out E.out hb (tail_le hX.out)
        rw [hx1.out] at C1
        go_wp2_with fail
        refine C1.mono ?_
        rintro e v1 ⟨rfl, Q1⟩
        have S1 := Lib.hid Q1
        clear Q1 C1
        obtain ⟨⟨d0, d1, d2, d3, d4⟩, ⟨r0, r1, r2, r3, r4⟩, fi, fr⟩ := S1.out.cells hb
        have RF := Lib.hid ((S1.out.put hb ⟨(op : Int), x0, 0, 0, 0⟩ 1 (.int .i64 x0) rfl).put hb ⟨(op : Int), x0, 0, 0, x1⟩ 4 (.int .i32 x1) rfl)
        go_wp2
        obtain ⟨hI, hB⟩ := rst_fin RF.out hb rfl
        exact read_end hI hB rfl
      · have F := Lib.hid (F.out _ hf)
        obtain ⟨x0, hx0⟩ : ∃ x, csrV (xs.headD .empty) = x := ⟨_, rfl⟩
        obtain ⟨x1, hx1⟩ : ∃ x, regV (xs.tail.headD .empty) = x := ⟨_, rfl⟩
        obtain rfl : I = ⟨(op : Int), 0, x1, 0, x0⟩ := by
          rw [← hRP.out]
          unfold readP
          simp only [hn, hop, hxs, hf, hx0, hx1]
          simp
        clear hRP
        have hx0 := Lib.hid hx0
        have hx1 := Lib.hid hx1
        clear d1 d2 d3 d4 r0 r1 r2 r3 r4 fi fr
        go_wp2_with fail
        refine F.out.mono ?_
        rintro e w2 ⟨rfl, rfl⟩
        clear F d0
        have C0 := csr_step R2.out E.out hb hX.out
        rw [hx0.out] at C0
        go_wp2_with fail
        refine C0.mono ?_
        rintro e v0 ⟨rfl, Q0⟩
        have S0 := Lib.hid Q0
        clear Q0 C0
        have C1 := reg_step S0.out E.out hb (tail_le hX.out)
        rw [hx1.out] at C1
        go_wp2_with fail
        refine C1.mono ?_
        rintro e v1 ⟨rfl, Q1⟩
        have S1 := Lib.hid Q1
        clear Q1 C1
        obtain ⟨⟨d0, d1, d2, d3, d4⟩, ⟨r0, r1, r2, r3, r4⟩, fi, fr⟩ := S1.out.cells hb
        have RF := Lib.hid ((S1.out.put hb ⟨(op : Int), 0, 0, 0, x0⟩ 4 (.int .i32 x0) rfl).put hb ⟨(op : Int), 0, x1, 0, x0⟩ 2 (.int .i64 x1) rfl)
        go_wp2
        obtain ⟨hI, hB⟩ := rst_fin RF.out hb rfl
        exact read_end hI hB rfl
      · have F := Lib.hid (F.out _ hf)
        obtain ⟨x0, hx0⟩ : ∃ x, regV (xs.headD .empty) = x := ⟨_, rfl⟩
        obtain rfl : I = ⟨(op : Int), 0, x0, 0, 0⟩ := by
          rw [← hRP.out]
          unfold readP
          simp only [hn, hop, hxs, hf, hx0]
          simp
        clear hRP
        have hx0 := Lib.hid hx0
        clear d1 d2 d3 d4 r0 r1 r2 r3 r4 fi fr
        go_wp2_with fail
        refine F.out.mono ?_
        rintro e w2 ⟨rfl, rfl⟩
        clear F d0
        have C0 := reg_step R2.out E.out hb hX.out
        rw [hx0.out] at C0
        go_wp2_with fail
        refine C0.mono ?_
        rintro e v0 ⟨rfl, Q0⟩
        have S0 := Lib.hid Q0
        clear Q0 C0
        obtain ⟨⟨d0, d1, d2, d3, d4⟩, ⟨r0, r1, r2, r3, r4⟩, fi, fr⟩ := S0.out.cells hb
        have RF := Lib.hid (S0.out.put hb ⟨(op : Int), 0, x0, 0, 0⟩ 2 (.int .i64 x0) rfl)
        go_wp2
        obtain ⟨hI, hB⟩ := rst_fin RF.out hb rfl
        exact read_end hI hB rfl
end Go.Proofs.YtihnglgknncgpaaGreatDoor.Asm
