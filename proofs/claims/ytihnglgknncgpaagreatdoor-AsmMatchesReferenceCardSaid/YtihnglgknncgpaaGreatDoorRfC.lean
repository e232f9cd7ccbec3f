/- The reference's Parse, walked; it answers as Parse does. -/
import Derived.Test.YtihnglgknncgpaaGreatDoorRfB
namespace Go.Proofs.YtihnglgknncgpaaGreatDoor.Asm
open Go Go.RowKit Go.Proofs.YtihnglgknncgpaaGreatDoor.PAsmEveryWordHasOneLine Go.Proofs.YtihnglgknncgpaaGreatDoorW.PrintWords Go.Proofs.YtihnglgknncgpaaGreatDoorW.PrintLast Go.Proofs.YtihnglgknncgpaaGreatDoorW.PrintMore Go.Proofs.YtihnglgknncgpaaGreatDoor.Bm Go.Proofs.YtihnglgknncgpaaGreatDoor.Isa
set_option linter.unusedVariables false
set_option linter.unusedSimpArgs false
/-! ### The reference's Parse -/
theorem fieldsA_len : ∀ (l cur : List UInt8), 1 ≤ (fieldsA cur l).length ∧ ∀ x ∈ fieldsA cur l, x.length ≤ cur.length + l.length
  | [], cur => ⟨by simp [fieldsA], fun x hx => by simp [fieldsA] at hx; subst hx; simp⟩
  | c :: l, cur => by
    unfold fieldsA
    split
    · obtain ⟨h1, h2⟩ := fieldsA_len l []
      refine ⟨by simp, fun x hx => ?_⟩
      rcases List.mem_cons.1 hx with rfl | hx
      · simp
      · have := h2 x hx; simp at this ⊢; omega
    · obtain ⟨h1, h2⟩ := fieldsA_len l (cur ++ [c])
      refine ⟨h1, fun x hx => ?_⟩
      have := h2 x hx; simp at this ⊢; omega
structure PSt (W0 : World) (g bi : Nat) (ws : List ByteArray) (i : In) (w : World) : Prop where
  below : Below W0.heap.size W0 w
  ws : ∀ j x, ws[j]? = some x → w.cell? ⟨g, j, none⟩ = some (.string x)
  res : IBox w W0.heap.size nilI
  ib : IBox w bi i
  hg : W0.heap.size < bi ∧ g < bi
theorem PSt.later {W0 : World} {g bi : Nat} {ws : List ByteArray} {i : In} {w w' : World} (h : PSt W0 g bi ws i w) (hb : Below w.heap.size w w') : PSt W0 g bi ws i w' :=
  ⟨h.below.trans (hb.mono h.below.size), fun j x hj => (hb.cell (Nat.lt_trans h.hg.2 h.ib.lt)).trans (h.ws j x hj), (hb.block _ (Nat.lt_trans h.hg.1 h.ib.lt)).trans h.res, (hb.block _ h.ib.lt).trans h.ib, h.hg⟩
theorem PSt.keep3 {W0 : World} {g bi : Nat} {ws : List ByteArray} {i : In} {w w' : World} {n : ByteArray} (h : w.cell? ⟨g, 0, none⟩ = some (.string n) ∧ w.frozen? ⟨bi, 0, none⟩ = false ∧ Hid (PSt W0 g bi ws i w)) (hb : Below w.heap.size w w') : PSt W0 g bi ws i w' := h.2.2.out.later hb
theorem PSt.got {W0 : World} {g bi : Nat} {ws : List ByteArray} {i : In} {w : World} {n : ByteArray} (h : w.cell? ⟨g, 0, none⟩ = some (.string n) ∧ w.frozen? ⟨bi, 0, none⟩ = false ∧ Hid (PSt W0 g bi ws i w)) : w.frozen? ⟨bi, 0, none⟩ = false ∧ Hid (PSt W0 g bi ws i w) := h.2
theorem PSt.set {W0 : World} {g bi : Nat} {ws : List ByteArray} {i : In} {w : World} (h : PSt W0 g bi ws i w) (i' : In) (j : Nat) (v : Value)
    (he : (#[.int .i64 i.op, .int .i64 i.rd, .int .i64 i.ra, .int .i64 i.rb, .int .i32 i.imm] : Array Value).setIfInBounds j v = #[.int .i64 i'.op, .int .i64 i'.rd, .int .i64 i'.ra, .int .i64 i'.rb, .int .i32 i'.imm]) : PSt W0 g bi ws i' (w.setCell ⟨bi, j, none⟩ v) := by
  have hg := grown_set w ⟨bi, j, none⟩ v
  have h1 := h.hg.1
  have h2 := h.hg.2
  exact ⟨h.below.setCell (Nat.le_of_lt h1) v, fun k x hk => (World.cell?_of_block (Below.heap_setCell w ⟨bi, j, none⟩ v g (by show g ≠ bi; omega))).trans (h.ws k x hk), h.res.kept hg (some_ne (by show W0.heap.size ≠ bi; omega)), ibox_set i' v h.ib he, h.hg⟩
/-- What the reference's Parse reads. -/
def rdI (x0 x1 x2 x3 : ByteArray) : In :=
  let op : Int := (opTo x0 26 : Nat)
  if fmt op = 1 then ⟨op, numR x1.data.toList 1, numR x2.data.toList 1, numR x3.data.toList 1, 0⟩
  else if fmt op = 2 then ⟨op, numR x1.data.toList 1, numR x2.data.toList 1, 0, numR x3.data.toList 0⟩
  else if fmt op = 3 then ⟨op, numR x1.data.toList 1, 0, 0, numR x2.data.toList 0⟩
  else if fmt op = 5 then ⟨op, numR x1.data.toList 1, 0, 0, numR x2.data.toList 1⟩
  else if fmt op = 6 then ⟨op, 0, numR x2.data.toList 1, 0, numR x1.data.toList 1⟩
  else if fmt op = 7 then ⟨op, 0, numR x1.data.toList 1, 0, 0⟩
  else ⟨op, 0, 0, 0, 0⟩
theorem opTo_one (x : ByteArray) : opTo x 1 = 0 := by
  show (if nm ((0 : Nat) : Int) = x ∧ nm ((0 : Nat) : Int) ≠ .empty then 0 else opTo x 0) = 0
  split <;> rfl
theorem res_endR {wf : World} {b : Nat} {i : In} {tmps : Array Value} {k : Int} {R : Ending → World → Prop} (h : IBox wf b i) (ht : tmps[2]?.getD undef = .pointer (some ⟨b, 0, none⟩)) (hk : tmps[3]?.getD undef = .int .i64 k)
    (hR : R (.returned (.tuple #[i.v, .int .i64 k])) wf) : bodyPost Tryz.prog Tryz.f12 R .ret { tmps := tmps, defers := [] } wf := by
  have c0 := h.cell 0
  have c1 := h.cell 1
  have c2 := h.cell 2
  have c3 := h.cell 3
  have c4 := h.cell 4
  simp only [List.getElem?_toArray, List.getElem?_cons_succ, List.getElem?_cons_zero] at c0 c1 c2 c3 c4
  refine bodyPost_ret (v := .tuple #[i.v, .int .i64 k]) ?_ rfl hR
  simp [results, Tryz.f12, go_sem, ht, hk, c0, c1, c2, c3, c4, In.v]
theorem numR_bound (l : List UInt8) (f : Nat) : -1000000 ≤ numR l f ∧ numR l f ≤ 1000000 := by
  unfold numR
  have h1 := numG_le l 0 (by omega)
  have h2 := numG_le (l.drop f) 0 (by omega)
  split <;> omega
theorem nm_ne : ∀ k : Nat, k < 26 → 1 ≤ k → nm (k : Int) ≠ .empty := by decide +kernel
set_option maxRecDepth 100000 in
set_option maxHeartbeats 8000000 in
theorem rp_0 (l : List UInt8) (W : World) (hl : l.length ≤ 1000000) (x0 x1 x2 x3 : ByteArray) (ws : List ByteArray) (hws : wordsB l ++ [.empty, .empty, .empty, .empty] = ws)
    (h0 : ws[0]? = some x0) (h1 : ws[1]? = some x1) (h2 : ws[2]? = some x2) (h3 : ws[3]? = some x3) (op : Nat) (hop : opTo x0 26 = op) (hf : fmt (op : Int) = 0)
    (S : ByteArray) (c : Int) (hF : ∀ W, Calls Tryz.prog 10 #[(⟨(op : Int), 0, 0, 0, 0⟩ : In).v] W fun e w' => e = .returned (.tuple #[.string S, .int .i64 c]) ∧ Below W.heap.size W w')
    (I : In) (d : Int) (hI : (c = 0 ∧ S = ⟨l.toArray⟩ ∧ I = ⟨(op : Int), 0, 0, 0, 0⟩ ∧ d = 0) ∨ (c = 1 ∧ I = nilI ∧ d = 2) ∨ (c = 0 ∧ S ≠ ⟨l.toArray⟩ ∧ I = nilI ∧ d = 2)) :
    Calls Tryz.prog 12 #[.string ⟨l.toArray⟩] W fun e w' => e = .returned (.tuple #[I.v, .int .i64 d]) ∧ Below W.heap.size W w' := by
  have WR := Lib.hid (fun w => words_ref l w hl)
  rw [hws] at WR
  have hlen := (fieldsA_len l []).1
  obtain ⟨M, hM⟩ : ∃ M, (wordsB l).length + 4 = M := ⟨_, rfl⟩
  have hM5 : 5 ≤ M := by rw [← hM]; unfold wordsB; simp; omega
  rw [hM] at WR
  have hsz : ∀ (j : Nat) (x : ByteArray), ws[j]? = some x → x.data.toList.length ≤ 1000000 := by
    intro j x hj
    have hm : x ∈ ws := List.mem_of_getElem? hj
    rw [← hws] at hm
    rcases List.mem_append.1 hm with hm | hm
    · obtain ⟨y, hy, rfl⟩ := List.mem_map.1 hm
      have := (fieldsA_len l []).2 y hy
      simp at this
      show y.length ≤ 1000000
      omega
    · simp at hm
      subst hm
      exact Nat.zero_le _
  have NM := Lib.hid (fun (k : Nat) (hk : k < 26) w => name_ref k hk w)
  have FO := Lib.hid (fun w => form_at (op : Int) _ w hf)
  have F := Lib.hid hF
  have HI := Lib.hid hI
  have HS0 := Lib.hid h0
  have HS1 := Lib.hid h1
  have HS2 := Lib.hid h2
  have HS3 := Lib.hid h3
  have HOP := Lib.hid hop
  obtain ⟨T, hT⟩ : ∃ T : ByteArray, ⟨l.toArray⟩ = T := ⟨_, rfl⟩
  rw [hT] at WR HI ⊢
  clear hI hF hws hM hlen hsz h0 h1 h2 h3 hop hf hT hl
  simp only [In.v] at F
  go_enter Tryz.func12, Tryz.ntmps12
  go_wp2_with fail
  refine (WR.out _).mono ?_
  rintro e w1 ⟨⟨g, cap, rfl, hg, hcell⟩, hb⟩
  have P0 : Hid (PSt W g w1.heap.size ws nilI (w1.alloc (.cells zeros 27))) := Lib.hid ⟨(((Below.refl _ W).alloc (Nat.le_refl _) _).trans (hb.mono (by simp))).alloc (by have := hb.size; simp at this; omega) _,
    fun j x hj => (World.cell?_alloc_lt _ _ ⟨g, j, none⟩ hg).trans (hcell j x hj), ((Below.heap_alloc w1 _ _ (by have := hb.size; simp at this; omega))).trans ((hb.block _ (by simp)).trans (World.alloc_heap_new W _)), World.alloc_heap_new w1 _, by have := hb.size; simp at this; omega, hg⟩
  obtain ⟨bi, hbi⟩ : ∃ bi, w1.heap.size = bi := ⟨_, rfl⟩
  rw [hbi] at P0
  clear hb hcell WR hg
  go_wp2_with fail
  go_loopw [6] (fun vi wr => ∃ k : Nat, 1 ≤ k ∧ k ≤ 26 ∧ vi = .int .i64 (k : Int) ∧ PSt W g bi ws ⟨opTo x0 k, 0, 0, 0, 0⟩ wr) (fun vi _ => 26 - (intOf vi).toNat)
  case atStart => exact ⟨1, by omega, by omega, rfl, by rw [opTo_one]; exact P0.out⟩
  case round =>
    obtain ⟨k, hk1, hk, rfl, hR⟩ := hrel
    have c0 := hR.ib.cell 0
    have f0 := hR.ib.frozen 0
    have y0 := hR.ws 0 _ HS0.out
    simp only [List.getElem?_toArray, List.getElem?_cons_zero] at c0
    by_cases hk26 : k < 26
    · have q1 : (k : Int) ≤ 25 := by omega
      have q2 : (0 : Int) < (M : Int) := by omega
      have q2n : 0 < M := by omega
      have NK := Lib.hid (fun w => NM.out k hk26 w)
      have ho : Hid (opTo x0 (k + 1) = if nm (k : Int) = x0 ∧ nm (k : Int) ≠ .empty then k else opTo x0 k) := Lib.hid rfl
      have hne : nm (k : Int) ≠ .empty := nm_ne k hk26 hk1
      obtain ⟨N, hN⟩ : ∃ N, nm (k : Int) = N := ⟨_, rfl⟩
      rw [hN] at NK ho hne
      clear hN
      by_cases hN1 : N = x0
      · subst hN1
        have ho' : Hid (opTo N (k + 1) = k) := Lib.hid (by rw [ho.out, if_pos ⟨rfl, hne⟩])
        clear ho hne
        have hR := Lib.hid hR
        go_wp2_with fail
        go_region_held3 (fun w => (w.cell? ⟨g, 0, none⟩ = some (.string N)) ∧ (w.frozen? ⟨bi, 0, none⟩ = false) ∧ Hid (PSt W g bi ws ⟨opTo N k, 0, 0, 0, 0⟩ w))
          (first | (exact ⟨y0, f0, Lib.hid (hR.out.later (Below.drew (Below.refl _ _)))⟩) | (have PK : PSt W g bi ws ⟨opTo N k, 0, 0, 0, 0⟩ w' := PSt.keep3 (by assumption) hbc; exact ⟨PK.ws 0 _ HS0.out, PK.ib.frozen 0, Lib.hid PK⟩) | go_keep)
          (first | (go_at_call 33; refine (NK.out _).mono ?_; rintro e w' ⟨rfl, hbc⟩))
        all_goals
          obtain ⟨f1, PK⟩ : w'.frozen? ⟨bi, 0, none⟩ = false ∧ Hid (PSt W g bi ws ⟨opTo N k, 0, 0, 0, 0⟩ w') := PSt.got (by assumption)
          have c1 := PK.out.ib.cell 0
          simp only [List.getElem?_toArray, List.getElem?_cons_zero] at c1
          have PK1 : Hid (PSt W g bi ws ⟨opTo N (k + 1), 0, 0, 0, 0⟩ (w'.setCell ⟨bi, 0, none⟩ (.int .i64 k))) := Lib.hid (by rw [ho'.out]; exact PK.out.set ⟨k, 0, 0, 0, 0⟩ 0 _ rfl)
          clear PK hR ho' c0 f0 y0
          go_wp2
          go_roundw
        all_goals first | exact ⟨k + 1, by omega, by omega, by go_num, PK1.out⟩ | (simp [intOf]; omega)
      · have ho' : Hid (opTo x0 (k + 1) = opTo x0 k) := Lib.hid (by rw [ho.out, if_neg (fun h => hN1 h.1)])
        have hN2 : ¬ N.toList = x0.toList := fun h => hN1 (toList_inj h)
        have hN3 : ¬ (N.toList == x0.toList) = true := fun h => hN2 (by simpa using h)
        clear ho hne hN1
        have hR := Lib.hid hR
        go_wp2_with fail
        go_region_held3 (fun w => (w.cell? ⟨g, 0, none⟩ = some (.string x0)) ∧ (w.frozen? ⟨bi, 0, none⟩ = false) ∧ Hid (PSt W g bi ws ⟨opTo x0 k, 0, 0, 0, 0⟩ w))
          (first | (exact ⟨y0, f0, Lib.hid (hR.out.later (Below.drew (Below.refl _ _)))⟩) | (have PK : PSt W g bi ws ⟨opTo x0 k, 0, 0, 0, 0⟩ w' := PSt.keep3 (by assumption) hbc; exact ⟨PK.ws 0 _ HS0.out, PK.ib.frozen 0, Lib.hid PK⟩) | go_keep)
          (first | (go_at_call 33; refine (NK.out _).mono ?_; rintro e w' ⟨rfl, hbc⟩))
        all_goals
          obtain ⟨f1, PK⟩ : w'.frozen? ⟨bi, 0, none⟩ = false ∧ Hid (PSt W g bi ws ⟨opTo x0 k, 0, 0, 0, 0⟩ w') := PSt.got (by assumption)
          have PK1 : Hid (PSt W g bi ws ⟨opTo x0 (k + 1), 0, 0, 0, 0⟩ w') := Lib.hid (by rw [ho'.out]; exact PK.out)
          clear PK hR ho' c0 f0 y0
          go_wp2
          go_roundw
        all_goals first | exact ⟨k + 1, by omega, by omega, by go_num, PK1.out⟩ | (simp [intOf]; omega)
    · obtain rfl : k = 26 := by omega
      clear c0 f0 y0
      rw [HOP.out] at hR
      have P1 := Lib.hid hR
      have c0 := hR.ib.cell 0
      simp only [List.getElem?_toArray, List.getElem?_cons_zero] at c0
      clear hR NM HOP P0
      go_wp2_with fail
      refine (FO.out _).mono ?_
      rintro e w2 ⟨rfl, ⟨n0, hw⟩⟩
      have P2 := Lib.hid (P1.out.later (show Below wr.heap.size wr w2 by rw [hw]; exact bdrew (Below.refl _ _) _))
      clear hw P1 c0 FO
      have d0 := P2.out.ib.cell 0
      have d1 := P2.out.ib.cell 1
      have d2 := P2.out.ib.cell 2
      have d3 := P2.out.ib.cell 3
      have d4 := P2.out.ib.cell 4
      simp only [List.getElem?_toArray, List.getElem?_cons_succ, List.getElem?_cons_zero] at d0 d1 d2 d3 d4
      go_wp2_with fail
      refine (F.out _).mono ?_
      rintro e w9 ⟨rfl, hb⟩
      have P3 := Lib.hid (P2.out.later hb)
      clear hb P2 d0 d1 d2 d3 d4 F
      have hfr := P3.out.res.frozen
      have r0 := P3.out.res.cell 0
      have r1 := P3.out.res.cell 1
      have r2 := P3.out.res.cell 2
      have r3 := P3.out.res.cell 3
      have r4 := P3.out.res.cell 4
      have d0 := P3.out.ib.cell 0
      have d1 := P3.out.ib.cell 1
      have d2 := P3.out.ib.cell 2
      have d3 := P3.out.ib.cell 3
      have d4 := P3.out.ib.cell 4
      simp only [List.getElem?_toArray, List.getElem?_cons_succ, List.getElem?_cons_zero, nilI] at r0 r1 r2 r3 r4 d0 d1 d2 d3 d4
      rcases HI.out with ⟨rfl, rfl, rfl, rfl⟩ | ⟨rfl, rfl, rfl⟩ | ⟨rfl, hne, rfl, rfl⟩
      · clear HI
        go_wp2
        obtain ⟨x1, x2⟩ := ibox_all ⟨(op : Int), 0, 0, 0, 0⟩ P3.out.res rfl
        exact res_endR x1 rfl rfl ⟨rfl, P3.out.below.trans x2⟩
      · clear HI
        go_wp2
        obtain ⟨x1, x2⟩ := ibox_all nilI P3.out.res rfl
        exact res_endR x1 rfl rfl ⟨rfl, P3.out.below.trans x2⟩
      · clear HI
        have hne' := toList_beq hne
        clear hne
        go_wp2
        obtain ⟨x1, x2⟩ := ibox_all nilI P3.out.res rfl
        exact res_endR x1 rfl rfl ⟨rfl, P3.out.below.trans x2⟩
set_option maxRecDepth 100000 in
set_option maxHeartbeats 8000000 in
theorem rp_1 (l : List UInt8) (W : World) (hl : l.length ≤ 1000000) (x0 x1 x2 x3 : ByteArray) (ws : List ByteArray) (hws : wordsB l ++ [.empty, .empty, .empty, .empty] = ws)
    (h0 : ws[0]? = some x0) (h1 : ws[1]? = some x1) (h2 : ws[2]? = some x2) (h3 : ws[3]? = some x3) (op : Nat) (hop : opTo x0 26 = op) (hf : fmt (op : Int) = 1) (v0 : Int) (n0 : numR x1.data.toList 1 = v0) (v1 : Int) (n1 : numR x2.data.toList 1 = v1) (v2 : Int) (n2 : numR x3.data.toList 1 = v2)
    (S : ByteArray) (c : Int) (hF : ∀ W, Calls Tryz.prog 10 #[(⟨(op : Int), v0, v1, v2, 0⟩ : In).v] W fun e w' => e = .returned (.tuple #[.string S, .int .i64 c]) ∧ Below W.heap.size W w')
    (I : In) (d : Int) (hI : (c = 0 ∧ S = ⟨l.toArray⟩ ∧ I = ⟨(op : Int), v0, v1, v2, 0⟩ ∧ d = 0) ∨ (c = 1 ∧ I = nilI ∧ d = 2) ∨ (c = 0 ∧ S ≠ ⟨l.toArray⟩ ∧ I = nilI ∧ d = 2)) :
    Calls Tryz.prog 12 #[.string ⟨l.toArray⟩] W fun e w' => e = .returned (.tuple #[I.v, .int .i64 d]) ∧ Below W.heap.size W w' := by
  have WR := Lib.hid (fun w => words_ref l w hl)
  rw [hws] at WR
  have hlen := (fieldsA_len l []).1
  obtain ⟨M, hM⟩ : ∃ M, (wordsB l).length + 4 = M := ⟨_, rfl⟩
  have hM5 : 5 ≤ M := by rw [← hM]; unfold wordsB; simp; omega
  rw [hM] at WR
  have hsz : ∀ (j : Nat) (x : ByteArray), ws[j]? = some x → x.data.toList.length ≤ 1000000 := by
    intro j x hj
    have hm : x ∈ ws := List.mem_of_getElem? hj
    rw [← hws] at hm
    rcases List.mem_append.1 hm with hm | hm
    · obtain ⟨y, hy, rfl⟩ := List.mem_map.1 hm
      have := (fieldsA_len l []).2 y hy
      simp at this
      show y.length ≤ 1000000
      omega
    · simp at hm
      subst hm
      exact Nat.zero_le _
  have NM := Lib.hid (fun (k : Nat) (hk : k < 26) w => name_ref k hk w)
  have FO := Lib.hid (fun w => form_at (op : Int) _ w hf)
  have F := Lib.hid hF
  have HI := Lib.hid hI
  have N0 := Lib.hid (fun w => num_ref x1.data.toList 1 w (by omega) (hsz 1 x1 h1))
  rw [n0] at N0
  have b0 := numR_bound x1.data.toList 1
  rw [n0] at b0
  have N1 := Lib.hid (fun w => num_ref x2.data.toList 1 w (by omega) (hsz 2 x2 h2))
  rw [n1] at N1
  have b1 := numR_bound x2.data.toList 1
  rw [n1] at b1
  have N2 := Lib.hid (fun w => num_ref x3.data.toList 1 w (by omega) (hsz 3 x3 h3))
  rw [n2] at N2
  have b2 := numR_bound x3.data.toList 1
  rw [n2] at b2
  have HS0 := Lib.hid h0
  have HS1 := Lib.hid h1
  have HS2 := Lib.hid h2
  have HS3 := Lib.hid h3
  have HOP := Lib.hid hop
  obtain ⟨T, hT⟩ : ∃ T : ByteArray, ⟨l.toArray⟩ = T := ⟨_, rfl⟩
  rw [hT] at WR HI ⊢
  clear hI hF hws hM hlen hsz h0 h1 h2 h3 hop hf hT hl n0 n1 n2
  simp only [In.v] at F
  go_enter Tryz.func12, Tryz.ntmps12
  go_wp2_with fail
  refine (WR.out _).mono ?_
  rintro e w1 ⟨⟨g, cap, rfl, hg, hcell⟩, hb⟩
  have P0 : Hid (PSt W g w1.heap.size ws nilI (w1.alloc (.cells zeros 27))) := Lib.hid ⟨(((Below.refl _ W).alloc (Nat.le_refl _) _).trans (hb.mono (by simp))).alloc (by have := hb.size; simp at this; omega) _,
    fun j x hj => (World.cell?_alloc_lt _ _ ⟨g, j, none⟩ hg).trans (hcell j x hj), ((Below.heap_alloc w1 _ _ (by have := hb.size; simp at this; omega))).trans ((hb.block _ (by simp)).trans (World.alloc_heap_new W _)), World.alloc_heap_new w1 _, by have := hb.size; simp at this; omega, hg⟩
  obtain ⟨bi, hbi⟩ : ∃ bi, w1.heap.size = bi := ⟨_, rfl⟩
  rw [hbi] at P0
  clear hb hcell WR hg
  go_wp2_with fail
  go_loopw [6] (fun vi wr => ∃ k : Nat, 1 ≤ k ∧ k ≤ 26 ∧ vi = .int .i64 (k : Int) ∧ PSt W g bi ws ⟨opTo x0 k, 0, 0, 0, 0⟩ wr) (fun vi _ => 26 - (intOf vi).toNat)
  case atStart => exact ⟨1, by omega, by omega, rfl, by rw [opTo_one]; exact P0.out⟩
  case round =>
    obtain ⟨k, hk1, hk, rfl, hR⟩ := hrel
    have c0 := hR.ib.cell 0
    have f0 := hR.ib.frozen 0
    have y0 := hR.ws 0 _ HS0.out
    simp only [List.getElem?_toArray, List.getElem?_cons_zero] at c0
    by_cases hk26 : k < 26
    · have q1 : (k : Int) ≤ 25 := by omega
      have q2 : (0 : Int) < (M : Int) := by omega
      have q2n : 0 < M := by omega
      have NK := Lib.hid (fun w => NM.out k hk26 w)
      have ho : Hid (opTo x0 (k + 1) = if nm (k : Int) = x0 ∧ nm (k : Int) ≠ .empty then k else opTo x0 k) := Lib.hid rfl
      have hne : nm (k : Int) ≠ .empty := nm_ne k hk26 hk1
      obtain ⟨N, hN⟩ : ∃ N, nm (k : Int) = N := ⟨_, rfl⟩
      rw [hN] at NK ho hne
      clear hN
      by_cases hN1 : N = x0
      · subst hN1
        have ho' : Hid (opTo N (k + 1) = k) := Lib.hid (by rw [ho.out, if_pos ⟨rfl, hne⟩])
        clear ho hne
        have hR := Lib.hid hR
        go_wp2_with fail
        go_region_held3 (fun w => (w.cell? ⟨g, 0, none⟩ = some (.string N)) ∧ (w.frozen? ⟨bi, 0, none⟩ = false) ∧ Hid (PSt W g bi ws ⟨opTo N k, 0, 0, 0, 0⟩ w))
          (first | (exact ⟨y0, f0, Lib.hid (hR.out.later (Below.drew (Below.refl _ _)))⟩) | (have PK : PSt W g bi ws ⟨opTo N k, 0, 0, 0, 0⟩ w' := PSt.keep3 (by assumption) hbc; exact ⟨PK.ws 0 _ HS0.out, PK.ib.frozen 0, Lib.hid PK⟩) | go_keep)
          (first | (go_at_call 33; refine (NK.out _).mono ?_; rintro e w' ⟨rfl, hbc⟩))
        all_goals
          obtain ⟨f1, PK⟩ : w'.frozen? ⟨bi, 0, none⟩ = false ∧ Hid (PSt W g bi ws ⟨opTo N k, 0, 0, 0, 0⟩ w') := PSt.got (by assumption)
          have c1 := PK.out.ib.cell 0
          simp only [List.getElem?_toArray, List.getElem?_cons_zero] at c1
          have PK1 : Hid (PSt W g bi ws ⟨opTo N (k + 1), 0, 0, 0, 0⟩ (w'.setCell ⟨bi, 0, none⟩ (.int .i64 k))) := Lib.hid (by rw [ho'.out]; exact PK.out.set ⟨k, 0, 0, 0, 0⟩ 0 _ rfl)
          clear PK hR ho' c0 f0 y0
          go_wp2
          go_roundw
        all_goals first | exact ⟨k + 1, by omega, by omega, by go_num, PK1.out⟩ | (simp [intOf]; omega)
      · have ho' : Hid (opTo x0 (k + 1) = opTo x0 k) := Lib.hid (by rw [ho.out, if_neg (fun h => hN1 h.1)])
        have hN2 : ¬ N.toList = x0.toList := fun h => hN1 (toList_inj h)
        have hN3 : ¬ (N.toList == x0.toList) = true := fun h => hN2 (by simpa using h)
        clear ho hne hN1
        have hR := Lib.hid hR
        go_wp2_with fail
        go_region_held3 (fun w => (w.cell? ⟨g, 0, none⟩ = some (.string x0)) ∧ (w.frozen? ⟨bi, 0, none⟩ = false) ∧ Hid (PSt W g bi ws ⟨opTo x0 k, 0, 0, 0, 0⟩ w))
          (first | (exact ⟨y0, f0, Lib.hid (hR.out.later (Below.drew (Below.refl _ _)))⟩) | (have PK : PSt W g bi ws ⟨opTo x0 k, 0, 0, 0, 0⟩ w' := PSt.keep3 (by assumption) hbc; exact ⟨PK.ws 0 _ HS0.out, PK.ib.frozen 0, Lib.hid PK⟩) | go_keep)
          (first | (go_at_call 33; refine (NK.out _).mono ?_; rintro e w' ⟨rfl, hbc⟩))
        all_goals
          obtain ⟨f1, PK⟩ : w'.frozen? ⟨bi, 0, none⟩ = false ∧ Hid (PSt W g bi ws ⟨opTo x0 k, 0, 0, 0, 0⟩ w') := PSt.got (by assumption)
          have PK1 : Hid (PSt W g bi ws ⟨opTo x0 (k + 1), 0, 0, 0, 0⟩ w') := Lib.hid (by rw [ho'.out]; exact PK.out)
          clear PK hR ho' c0 f0 y0
          go_wp2
          go_roundw
        all_goals first | exact ⟨k + 1, by omega, by omega, by go_num, PK1.out⟩ | (simp [intOf]; omega)
    · obtain rfl : k = 26 := by omega
      clear c0 f0 y0
      rw [HOP.out] at hR
      have P1 := Lib.hid hR
      have c0 := hR.ib.cell 0
      simp only [List.getElem?_toArray, List.getElem?_cons_zero] at c0
      clear hR NM HOP P0
      go_wp2_with fail
      refine (FO.out _).mono ?_
      rintro e w2 ⟨rfl, ⟨n0, hw⟩⟩
      have P2 := Lib.hid (P1.out.later (show Below wr.heap.size wr w2 by rw [hw]; exact bdrew (Below.refl _ _) _))
      clear hw P1 c0 FO
      have y0 := P2.out.ws 1 _ HS1.out
      have q0 : (1 : Int) < (M : Int) := by omega
      go_wp2_with fail
      refine (N0.out _).mono ?_
      rintro e w3 ⟨rfl, hb⟩
      have P3 := Lib.hid (P2.out.later hb)
      have cc0 := P3.out.ib.cell 1
      have ff0 := P3.out.ib.frozen 1
      simp only [List.getElem?_toArray, List.getElem?_cons_succ, List.getElem?_cons_zero] at cc0
      have P4 := Lib.hid (P3.out.set ⟨(op : Int), v0, 0, 0, 0⟩ 1 (.int .i64 v0) rfl)
      clear hb P2 P3 y0 N0
      have y1 := P4.out.ws 2 _ HS2.out
      have q1 : (2 : Int) < (M : Int) := by omega
      go_wp2_with fail
      refine (N1.out _).mono ?_
      rintro e w4 ⟨rfl, hb⟩
      have P5 := Lib.hid (P4.out.later hb)
      have cc1 := P5.out.ib.cell 2
      have ff1 := P5.out.ib.frozen 2
      simp only [List.getElem?_toArray, List.getElem?_cons_succ, List.getElem?_cons_zero] at cc1
      have P6 := Lib.hid (P5.out.set ⟨(op : Int), v0, v1, 0, 0⟩ 2 (.int .i64 v1) rfl)
      clear hb P4 P5 y1 N1
      have y2 := P6.out.ws 3 _ HS3.out
      have q2 : (3 : Int) < (M : Int) := by omega
      go_wp2_with fail
      refine (N2.out _).mono ?_
      rintro e w5 ⟨rfl, hb⟩
      have P7 := Lib.hid (P6.out.later hb)
      have cc2 := P7.out.ib.cell 3
      have ff2 := P7.out.ib.frozen 3
      simp only [List.getElem?_toArray, List.getElem?_cons_succ, List.getElem?_cons_zero] at cc2
      have P8 := Lib.hid (P7.out.set ⟨(op : Int), v0, v1, v2, 0⟩ 3 (.int .i64 v2) rfl)
      clear hb P6 P7 y2 N2
      have d0 := P8.out.ib.cell 0
      have d1 := P8.out.ib.cell 1
      have d2 := P8.out.ib.cell 2
      have d3 := P8.out.ib.cell 3
      have d4 := P8.out.ib.cell 4
      simp only [List.getElem?_toArray, List.getElem?_cons_succ, List.getElem?_cons_zero] at d0 d1 d2 d3 d4
      go_wp2_with fail
      refine (F.out _).mono ?_
      rintro e w9 ⟨rfl, hb⟩
      have P9 := Lib.hid (P8.out.later hb)
      clear hb P8 d0 d1 d2 d3 d4 F
      have hfr := P9.out.res.frozen
      have r0 := P9.out.res.cell 0
      have r1 := P9.out.res.cell 1
      have r2 := P9.out.res.cell 2
      have r3 := P9.out.res.cell 3
      have r4 := P9.out.res.cell 4
      have d0 := P9.out.ib.cell 0
      have d1 := P9.out.ib.cell 1
      have d2 := P9.out.ib.cell 2
      have d3 := P9.out.ib.cell 3
      have d4 := P9.out.ib.cell 4
      simp only [List.getElem?_toArray, List.getElem?_cons_succ, List.getElem?_cons_zero, nilI] at r0 r1 r2 r3 r4 d0 d1 d2 d3 d4
      rcases HI.out with ⟨rfl, rfl, rfl, rfl⟩ | ⟨rfl, rfl, rfl⟩ | ⟨rfl, hne, rfl, rfl⟩
      · clear HI
        go_wp2
        obtain ⟨x1, x2⟩ := ibox_all ⟨(op : Int), v0, v1, v2, 0⟩ P9.out.res rfl
        exact res_endR x1 rfl rfl ⟨rfl, P9.out.below.trans x2⟩
      · clear HI
        go_wp2
        obtain ⟨x1, x2⟩ := ibox_all nilI P9.out.res rfl
        exact res_endR x1 rfl rfl ⟨rfl, P9.out.below.trans x2⟩
      · clear HI
        have hne' := toList_beq hne
        clear hne
        go_wp2
        obtain ⟨x1, x2⟩ := ibox_all nilI P9.out.res rfl
        exact res_endR x1 rfl rfl ⟨rfl, P9.out.below.trans x2⟩
set_option maxRecDepth 100000 in
set_option maxHeartbeats 8000000 in
theorem rp_2 (l : List UInt8) (W : World) (hl : l.length ≤ 1000000) (x0 x1 x2 x3 : ByteArray) (ws : List ByteArray) (hws : wordsB l ++ [.empty, .empty, .empty, .empty] = ws)
    (h0 : ws[0]? = some x0) (h1 : ws[1]? = some x1) (h2 : ws[2]? = some x2) (h3 : ws[3]? = some x3) (op : Nat) (hop : opTo x0 26 = op) (hf : fmt (op : Int) = 2) (v0 : Int) (n0 : numR x1.data.toList 1 = v0) (v1 : Int) (n1 : numR x2.data.toList 1 = v1) (v2 : Int) (n2 : numR x3.data.toList 0 = v2)
    (S : ByteArray) (c : Int) (hF : ∀ W, Calls Tryz.prog 10 #[(⟨(op : Int), v0, v1, 0, v2⟩ : In).v] W fun e w' => e = .returned (.tuple #[.string S, .int .i64 c]) ∧ Below W.heap.size W w')
    (I : In) (d : Int) (hI : (c = 0 ∧ S = ⟨l.toArray⟩ ∧ I = ⟨(op : Int), v0, v1, 0, v2⟩ ∧ d = 0) ∨ (c = 1 ∧ I = nilI ∧ d = 2) ∨ (c = 0 ∧ S ≠ ⟨l.toArray⟩ ∧ I = nilI ∧ d = 2)) :
    Calls Tryz.prog 12 #[.string ⟨l.toArray⟩] W fun e w' => e = .returned (.tuple #[I.v, .int .i64 d]) ∧ Below W.heap.size W w' := by
  have WR := Lib.hid (fun w => words_ref l w hl)
  rw [hws] at WR
  have hlen := (fieldsA_len l []).1
  obtain ⟨M, hM⟩ : ∃ M, (wordsB l).length + 4 = M := ⟨_, rfl⟩
  have hM5 : 5 ≤ M := by rw [← hM]; unfold wordsB; simp; omega
  rw [hM] at WR
  have hsz : ∀ (j : Nat) (x : ByteArray), ws[j]? = some x → x.data.toList.length ≤ 1000000 := by
    intro j x hj
    have hm : x ∈ ws := List.mem_of_getElem? hj
    rw [← hws] at hm
    rcases List.mem_append.1 hm with hm | hm
    · obtain ⟨y, hy, rfl⟩ := List.mem_map.1 hm
      have := (fieldsA_len l []).2 y hy
      simp at this
      show y.length ≤ 1000000
      omega
    · simp at hm
      subst hm
      exact Nat.zero_le _
  have NM := Lib.hid (fun (k : Nat) (hk : k < 26) w => name_ref k hk w)
  have FO := Lib.hid (fun w => form_at (op : Int) _ w hf)
  have F := Lib.hid hF
  have HI := Lib.hid hI
  have N0 := Lib.hid (fun w => num_ref x1.data.toList 1 w (by omega) (hsz 1 x1 h1))
  rw [n0] at N0
  have b0 := numR_bound x1.data.toList 1
  rw [n0] at b0
  have N1 := Lib.hid (fun w => num_ref x2.data.toList 1 w (by omega) (hsz 2 x2 h2))
  rw [n1] at N1
  have b1 := numR_bound x2.data.toList 1
  rw [n1] at b1
  have N2 := Lib.hid (fun w => num_ref x3.data.toList 0 w (by omega) (hsz 3 x3 h3))
  rw [n2] at N2
  have b2 := numR_bound x3.data.toList 0
  rw [n2] at b2
  have z2 : IntKind.i32.wrap v2 = v2 := by rw [IntKind.wrap_i32]; omega
  have HS0 := Lib.hid h0
  have HS1 := Lib.hid h1
  have HS2 := Lib.hid h2
  have HS3 := Lib.hid h3
  have HOP := Lib.hid hop
  obtain ⟨T, hT⟩ : ∃ T : ByteArray, ⟨l.toArray⟩ = T := ⟨_, rfl⟩
  rw [hT] at WR HI ⊢
  clear hI hF hws hM hlen hsz h0 h1 h2 h3 hop hf hT hl n0 n1 n2
  simp only [In.v] at F
  go_enter Tryz.func12, Tryz.ntmps12
  go_wp2_with fail
  refine (WR.out _).mono ?_
  rintro e w1 ⟨⟨g, cap, rfl, hg, hcell⟩, hb⟩
  have P0 : Hid (PSt W g w1.heap.size ws nilI (w1.alloc (.cells zeros 27))) := Lib.hid ⟨(((Below.refl _ W).alloc (Nat.le_refl _) _).trans (hb.mono (by simp))).alloc (by have := hb.size; simp at this; omega) _,
    fun j x hj => (World.cell?_alloc_lt _ _ ⟨g, j, none⟩ hg).trans (hcell j x hj), ((Below.heap_alloc w1 _ _ (by have := hb.size; simp at this; omega))).trans ((hb.block _ (by simp)).trans (World.alloc_heap_new W _)), World.alloc_heap_new w1 _, by have := hb.size; simp at this; omega, hg⟩
  obtain ⟨bi, hbi⟩ : ∃ bi, w1.heap.size = bi := ⟨_, rfl⟩
  rw [hbi] at P0
  clear hb hcell WR hg
  go_wp2_with fail
  go_loopw [6] (fun vi wr => ∃ k : Nat, 1 ≤ k ∧ k ≤ 26 ∧ vi = .int .i64 (k : Int) ∧ PSt W g bi ws ⟨opTo x0 k, 0, 0, 0, 0⟩ wr) (fun vi _ => 26 - (intOf vi).toNat)
  case atStart => exact ⟨1, by omega, by omega, rfl, by rw [opTo_one]; exact P0.out⟩
  case round =>
    obtain ⟨k, hk1, hk, rfl, hR⟩ := hrel
    have c0 := hR.ib.cell 0
    have f0 := hR.ib.frozen 0
    have y0 := hR.ws 0 _ HS0.out
    simp only [List.getElem?_toArray, List.getElem?_cons_zero] at c0
    by_cases hk26 : k < 26
    · have q1 : (k : Int) ≤ 25 := by omega
      have q2 : (0 : Int) < (M : Int) := by omega
      have q2n : 0 < M := by omega
      have NK := Lib.hid (fun w => NM.out k hk26 w)
      have ho : Hid (opTo x0 (k + 1) = if nm (k : Int) = x0 ∧ nm (k : Int) ≠ .empty then k else opTo x0 k) := Lib.hid rfl
      have hne : nm (k : Int) ≠ .empty := nm_ne k hk26 hk1
      obtain ⟨N, hN⟩ : ∃ N, nm (k : Int) = N := ⟨_, rfl⟩
      rw [hN] at NK ho hne
      clear hN
      by_cases hN1 : N = x0
      · subst hN1
        have ho' : Hid (opTo N (k + 1) = k) := Lib.hid (by rw [ho.out, if_pos ⟨rfl, hne⟩])
        clear ho hne
        have hR := Lib.hid hR
        go_wp2_with fail
        go_region_held3 (fun w => (w.cell? ⟨g, 0, none⟩ = some (.string N)) ∧ (w.frozen? ⟨bi, 0, none⟩ = false) ∧ Hid (PSt W g bi ws ⟨opTo N k, 0, 0, 0, 0⟩ w))
          (first | (exact ⟨y0, f0, Lib.hid (hR.out.later (Below.drew (Below.refl _ _)))⟩) | (have PK : PSt W g bi ws ⟨opTo N k, 0, 0, 0, 0⟩ w' := PSt.keep3 (by assumption) hbc; exact ⟨PK.ws 0 _ HS0.out, PK.ib.frozen 0, Lib.hid PK⟩) | go_keep)
          (first | (go_at_call 33; refine (NK.out _).mono ?_; rintro e w' ⟨rfl, hbc⟩))
        all_goals
          obtain ⟨f1, PK⟩ : w'.frozen? ⟨bi, 0, none⟩ = false ∧ Hid (PSt W g bi ws ⟨opTo N k, 0, 0, 0, 0⟩ w') := PSt.got (by assumption)
          have c1 := PK.out.ib.cell 0
          simp only [List.getElem?_toArray, List.getElem?_cons_zero] at c1
          have PK1 : Hid (PSt W g bi ws ⟨opTo N (k + 1), 0, 0, 0, 0⟩ (w'.setCell ⟨bi, 0, none⟩ (.int .i64 k))) := Lib.hid (by rw [ho'.out]; exact PK.out.set ⟨k, 0, 0, 0, 0⟩ 0 _ rfl)
          clear PK hR ho' c0 f0 y0
          go_wp2
          go_roundw
        all_goals first | exact ⟨k + 1, by omega, by omega, by go_num, PK1.out⟩ | (simp [intOf]; omega)
      · have ho' : Hid (opTo x0 (k + 1) = opTo x0 k) := Lib.hid (by rw [ho.out, if_neg (fun h => hN1 h.1)])
        have hN2 : ¬ N.toList = x0.toList := fun h => hN1 (toList_inj h)
        have hN3 : ¬ (N.toList == x0.toList) = true := fun h => hN2 (by simpa using h)
        clear ho hne hN1
        have hR := Lib.hid hR
        go_wp2_with fail
        go_region_held3 (fun w => (w.cell? ⟨g, 0, none⟩ = some (.string x0)) ∧ (w.frozen? ⟨bi, 0, none⟩ = false) ∧ Hid (PSt W g bi ws ⟨opTo x0 k, 0, 0, 0, 0⟩ w))
          (first | (exact ⟨y0, f0, Lib.hid (hR.out.later (Below.drew (Below.refl _ _)))⟩) | (have PK : PSt W g bi ws ⟨opTo x0 k, 0, 0, 0, 0⟩ w' := PSt.keep3 (by assumption) hbc; exact ⟨PK.ws 0 _ HS0.out, PK.ib.frozen 0, Lib.hid PK⟩) | go_keep)
          (first | (go_at_call 33; refine (NK.out _).mono ?_; rintro e w' ⟨rfl, hbc⟩))
        all_goals
          obtain ⟨f1, PK⟩ : w'.frozen? ⟨bi, 0, none⟩ = false ∧ Hid (PSt W g bi ws ⟨opTo x0 k, 0, 0, 0, 0⟩ w') := PSt.got (by assumption)
          have PK1 : Hid (PSt W g bi ws ⟨opTo x0 (k + 1), 0, 0, 0, 0⟩ w') := Lib.hid (by rw [ho'.out]; exact PK.out)
          clear PK hR ho' c0 f0 y0
          go_wp2
          go_roundw
        all_goals first | exact ⟨k + 1, by omega, by omega, by go_num, PK1.out⟩ | (simp [intOf]; omega)
    · obtain rfl : k = 26 := by omega
      clear c0 f0 y0
      rw [HOP.out] at hR
      have P1 := Lib.hid hR
      have c0 := hR.ib.cell 0
      simp only [List.getElem?_toArray, List.getElem?_cons_zero] at c0
      clear hR NM HOP P0
      go_wp2_with fail
      refine (FO.out _).mono ?_
      rintro e w2 ⟨rfl, ⟨n0, hw⟩⟩
      have P2 := Lib.hid (P1.out.later (show Below wr.heap.size wr w2 by rw [hw]; exact bdrew (Below.refl _ _) _))
      clear hw P1 c0 FO
      have y0 := P2.out.ws 1 _ HS1.out
      have q0 : (1 : Int) < (M : Int) := by omega
      go_wp2_with fail
      refine (N0.out _).mono ?_
      rintro e w3 ⟨rfl, hb⟩
      have P3 := Lib.hid (P2.out.later hb)
      have cc0 := P3.out.ib.cell 1
      have ff0 := P3.out.ib.frozen 1
      simp only [List.getElem?_toArray, List.getElem?_cons_succ, List.getElem?_cons_zero] at cc0
      have P4 := Lib.hid (P3.out.set ⟨(op : Int), v0, 0, 0, 0⟩ 1 (.int .i64 v0) rfl)
      clear hb P2 P3 y0 N0
      have y1 := P4.out.ws 2 _ HS2.out
      have q1 : (2 : Int) < (M : Int) := by omega
      go_wp2_with fail
      refine (N1.out _).mono ?_
      rintro e w4 ⟨rfl, hb⟩
      have P5 := Lib.hid (P4.out.later hb)
      have cc1 := P5.out.ib.cell 2
      have ff1 := P5.out.ib.frozen 2
      simp only [List.getElem?_toArray, List.getElem?_cons_succ, List.getElem?_cons_zero] at cc1
      have P6 := Lib.hid (P5.out.set ⟨(op : Int), v0, v1, 0, 0⟩ 2 (.int .i64 v1) rfl)
      clear hb P4 P5 y1 N1
      have y2 := P6.out.ws 3 _ HS3.out
      have q2 : (3 : Int) < (M : Int) := by omega
      go_wp2_with fail
      refine (N2.out _).mono ?_
      rintro e w5 ⟨rfl, hb⟩
      have P7 := Lib.hid (P6.out.later hb)
      have cc2 := P7.out.ib.cell 4
      have ff2 := P7.out.ib.frozen 4
      simp only [List.getElem?_toArray, List.getElem?_cons_succ, List.getElem?_cons_zero] at cc2
      have P8 := Lib.hid (P7.out.set ⟨(op : Int), v0, v1, 0, v2⟩ 4 (.int .i32 v2) rfl)
      clear hb P6 P7 y2 N2
      have d0 := P8.out.ib.cell 0
      have d1 := P8.out.ib.cell 1
      have d2 := P8.out.ib.cell 2
      have d3 := P8.out.ib.cell 3
      have d4 := P8.out.ib.cell 4
      simp only [List.getElem?_toArray, List.getElem?_cons_succ, List.getElem?_cons_zero] at d0 d1 d2 d3 d4
      go_wp2_with fail
      refine (F.out _).mono ?_
      rintro e w9 ⟨rfl, hb⟩
      have P9 := Lib.hid (P8.out.later hb)
      clear hb P8 d0 d1 d2 d3 d4 F
      have hfr := P9.out.res.frozen
      have r0 := P9.out.res.cell 0
      have r1 := P9.out.res.cell 1
      have r2 := P9.out.res.cell 2
      have r3 := P9.out.res.cell 3
      have r4 := P9.out.res.cell 4
      have d0 := P9.out.ib.cell 0
      have d1 := P9.out.ib.cell 1
      have d2 := P9.out.ib.cell 2
      have d3 := P9.out.ib.cell 3
      have d4 := P9.out.ib.cell 4
      simp only [List.getElem?_toArray, List.getElem?_cons_succ, List.getElem?_cons_zero, nilI] at r0 r1 r2 r3 r4 d0 d1 d2 d3 d4
      rcases HI.out with ⟨rfl, rfl, rfl, rfl⟩ | ⟨rfl, rfl, rfl⟩ | ⟨rfl, hne, rfl, rfl⟩
      · clear HI
        go_wp2
        obtain ⟨x1, x2⟩ := ibox_all ⟨(op : Int), v0, v1, 0, v2⟩ P9.out.res rfl
        exact res_endR x1 rfl rfl ⟨rfl, P9.out.below.trans x2⟩
      · clear HI
        go_wp2
        obtain ⟨x1, x2⟩ := ibox_all nilI P9.out.res rfl
        exact res_endR x1 rfl rfl ⟨rfl, P9.out.below.trans x2⟩
      · clear HI
        have hne' := toList_beq hne
        clear hne
        go_wp2
        obtain ⟨x1, x2⟩ := ibox_all nilI P9.out.res rfl
        exact res_endR x1 rfl rfl ⟨rfl, P9.out.below.trans x2⟩
set_option maxRecDepth 100000 in
set_option maxHeartbeats 8000000 in
theorem rp_3 (l : List UInt8) (W : World) (hl : l.length ≤ 1000000) (x0 x1 x2 x3 : ByteArray) (ws : List ByteArray) (hws : wordsB l ++ [.empty, .empty, .empty, .empty] = ws)
    (h0 : ws[0]? = some x0) (h1 : ws[1]? = some x1) (h2 : ws[2]? = some x2) (h3 : ws[3]? = some x3) (op : Nat) (hop : opTo x0 26 = op) (hf : fmt (op : Int) = 3) (v0 : Int) (n0 : numR x1.data.toList 1 = v0) (v1 : Int) (n1 : numR x2.data.toList 0 = v1)
    (S : ByteArray) (c : Int) (hF : ∀ W, Calls Tryz.prog 10 #[(⟨(op : Int), v0, 0, 0, v1⟩ : In).v] W fun e w' => e = .returned (.tuple #[.string S, .int .i64 c]) ∧ Below W.heap.size W w')
    (I : In) (d : Int) (hI : (c = 0 ∧ S = ⟨l.toArray⟩ ∧ I = ⟨(op : Int), v0, 0, 0, v1⟩ ∧ d = 0) ∨ (c = 1 ∧ I = nilI ∧ d = 2) ∨ (c = 0 ∧ S ≠ ⟨l.toArray⟩ ∧ I = nilI ∧ d = 2)) :
    Calls Tryz.prog 12 #[.string ⟨l.toArray⟩] W fun e w' => e = .returned (.tuple #[I.v, .int .i64 d]) ∧ Below W.heap.size W w' := by
  have WR := Lib.hid (fun w => words_ref l w hl)
  rw [hws] at WR
  have hlen := (fieldsA_len l []).1
  obtain ⟨M, hM⟩ : ∃ M, (wordsB l).length + 4 = M := ⟨_, rfl⟩
  have hM5 : 5 ≤ M := by rw [← hM]; unfold wordsB; simp; omega
  rw [hM] at WR
  have hsz : ∀ (j : Nat) (x : ByteArray), ws[j]? = some x → x.data.toList.length ≤ 1000000 := by
    intro j x hj
    have hm : x ∈ ws := List.mem_of_getElem? hj
    rw [← hws] at hm
    rcases List.mem_append.1 hm with hm | hm
    · obtain ⟨y, hy, rfl⟩ := List.mem_map.1 hm
      have := (fieldsA_len l []).2 y hy
      simp at this
      show y.length ≤ 1000000
      omega
    · simp at hm
      subst hm
      exact Nat.zero_le _
  have NM := Lib.hid (fun (k : Nat) (hk : k < 26) w => name_ref k hk w)
  have FO := Lib.hid (fun w => form_at (op : Int) _ w hf)
  have F := Lib.hid hF
  have HI := Lib.hid hI
  have N0 := Lib.hid (fun w => num_ref x1.data.toList 1 w (by omega) (hsz 1 x1 h1))
  rw [n0] at N0
  have b0 := numR_bound x1.data.toList 1
  rw [n0] at b0
  have N1 := Lib.hid (fun w => num_ref x2.data.toList 0 w (by omega) (hsz 2 x2 h2))
  rw [n1] at N1
  have b1 := numR_bound x2.data.toList 0
  rw [n1] at b1
  have z1 : IntKind.i32.wrap v1 = v1 := by rw [IntKind.wrap_i32]; omega
  have HS0 := Lib.hid h0
  have HS1 := Lib.hid h1
  have HS2 := Lib.hid h2
  have HS3 := Lib.hid h3
  have HOP := Lib.hid hop
  obtain ⟨T, hT⟩ : ∃ T : ByteArray, ⟨l.toArray⟩ = T := ⟨_, rfl⟩
  rw [hT] at WR HI ⊢
  clear hI hF hws hM hlen hsz h0 h1 h2 h3 hop hf hT hl n0 n1
  simp only [In.v] at F
  go_enter Tryz.func12, Tryz.ntmps12
  go_wp2_with fail
  refine (WR.out _).mono ?_
  rintro e w1 ⟨⟨g, cap, rfl, hg, hcell⟩, hb⟩
  have P0 : Hid (PSt W g w1.heap.size ws nilI (w1.alloc (.cells zeros 27))) := Lib.hid ⟨(((Below.refl _ W).alloc (Nat.le_refl _) _).trans (hb.mono (by simp))).alloc (by have := hb.size; simp at this; omega) _,
    fun j x hj => (World.cell?_alloc_lt _ _ ⟨g, j, none⟩ hg).trans (hcell j x hj), ((Below.heap_alloc w1 _ _ (by have := hb.size; simp at this; omega))).trans ((hb.block _ (by simp)).trans (World.alloc_heap_new W _)), World.alloc_heap_new w1 _, by have := hb.size; simp at this; omega, hg⟩
  obtain ⟨bi, hbi⟩ : ∃ bi, w1.heap.size = bi := ⟨_, rfl⟩
  rw [hbi] at P0
  clear hb hcell WR hg
  go_wp2_with fail
  go_loopw [6] (fun vi wr => ∃ k : Nat, 1 ≤ k ∧ k ≤ 26 ∧ vi = .int .i64 (k : Int) ∧ PSt W g bi ws ⟨opTo x0 k, 0, 0, 0, 0⟩ wr) (fun vi _ => 26 - (intOf vi).toNat)
  case atStart => exact ⟨1, by omega, by omega, rfl, by rw [opTo_one]; exact P0.out⟩
  case round =>
    obtain ⟨k, hk1, hk, rfl, hR⟩ := hrel
    have c0 := hR.ib.cell 0
    have f0 := hR.ib.frozen 0
    have y0 := hR.ws 0 _ HS0.out
    simp only [List.getElem?_toArray, List.getElem?_cons_zero] at c0
    by_cases hk26 : k < 26
    · have q1 : (k : Int) ≤ 25 := by omega
      have q2 : (0 : Int) < (M : Int) := by omega
      have q2n : 0 < M := by omega
      have NK := Lib.hid (fun w => NM.out k hk26 w)
      have ho : Hid (opTo x0 (k + 1) = if nm (k : Int) = x0 ∧ nm (k : Int) ≠ .empty then k else opTo x0 k) := Lib.hid rfl
      have hne : nm (k : Int) ≠ .empty := nm_ne k hk26 hk1
      obtain ⟨N, hN⟩ : ∃ N, nm (k : Int) = N := ⟨_, rfl⟩
      rw [hN] at NK ho hne
      clear hN
      by_cases hN1 : N = x0
      · subst hN1
        have ho' : Hid (opTo N (k + 1) = k) := Lib.hid (by rw [ho.out, if_pos ⟨rfl, hne⟩])
        clear ho hne
        have hR := Lib.hid hR
        go_wp2_with fail
        go_region_held3 (fun w => (w.cell? ⟨g, 0, none⟩ = some (.string N)) ∧ (w.frozen? ⟨bi, 0, none⟩ = false) ∧ Hid (PSt W g bi ws ⟨opTo N k, 0, 0, 0, 0⟩ w))
          (first | (exact ⟨y0, f0, Lib.hid (hR.out.later (Below.drew (Below.refl _ _)))⟩) | (have PK : PSt W g bi ws ⟨opTo N k, 0, 0, 0, 0⟩ w' := PSt.keep3 (by assumption) hbc; exact ⟨PK.ws 0 _ HS0.out, PK.ib.frozen 0, Lib.hid PK⟩) | go_keep)
          (first | (go_at_call 33; refine (NK.out _).mono ?_; rintro e w' ⟨rfl, hbc⟩))
        all_goals
          obtain ⟨f1, PK⟩ : w'.frozen? ⟨bi, 0, none⟩ = false ∧ Hid (PSt W g bi ws ⟨opTo N k, 0, 0, 0, 0⟩ w') := PSt.got (by assumption)
          have c1 := PK.out.ib.cell 0
          simp only [List.getElem?_toArray, List.getElem?_cons_zero] at c1
          have PK1 : Hid (PSt W g bi ws ⟨opTo N (k + 1), 0, 0, 0, 0⟩ (w'.setCell ⟨bi, 0, none⟩ (.int .i64 k))) := Lib.hid (by rw [ho'.out]; exact PK.out.set ⟨k, 0, 0, 0, 0⟩ 0 _ rfl)
          clear PK hR ho' c0 f0 y0
          go_wp2
          go_roundw
        all_goals first | exact ⟨k + 1, by omega, by omega, by go_num, PK1.out⟩ | (simp [intOf]; omega)
      · have ho' : Hid (opTo x0 (k + 1) = opTo x0 k) := Lib.hid (by rw [ho.out, if_neg (fun h => hN1 h.1)])
        have hN2 : ¬ N.toList = x0.toList := fun h => hN1 (toList_inj h)
        have hN3 : ¬ (N.toList == x0.toList) = true := fun h => hN2 (by simpa using h)
        clear ho hne hN1
        have hR := Lib.hid hR
        go_wp2_with fail
        go_region_held3 (fun w => (w.cell? ⟨g, 0, none⟩ = some (.string x0)) ∧ (w.frozen? ⟨bi, 0, none⟩ = false) ∧ Hid (PSt W g bi ws ⟨opTo x0 k, 0, 0, 0, 0⟩ w))
          (first | (exact ⟨y0, f0, Lib.hid (hR.out.later (Below.drew (Below.refl _ _)))⟩) | (have PK : PSt W g bi ws ⟨opTo x0 k, 0, 0, 0, 0⟩ w' := PSt.keep3 (by assumption) hbc; exact ⟨PK.ws 0 _ HS0.out, PK.ib.frozen 0, Lib.hid PK⟩) | go_keep)
          (first | (go_at_call 33; refine (NK.out _).mono ?_; rintro e w' ⟨rfl, hbc⟩))
        all_goals
          obtain ⟨f1, PK⟩ : w'.frozen? ⟨bi, 0, none⟩ = false ∧ Hid (PSt W g bi ws ⟨opTo x0 k, 0, 0, 0, 0⟩ w') := PSt.got (by assumption)
          have PK1 : Hid (PSt W g bi ws ⟨opTo x0 (k + 1), 0, 0, 0, 0⟩ w') := Lib.hid (by rw [ho'.out]; exact PK.out)
          clear PK hR ho' c0 f0 y0
          go_wp2
          go_roundw
        all_goals first | exact ⟨k + 1, by omega, by omega, by go_num, PK1.out⟩ | (simp [intOf]; omega)
    · obtain rfl : k = 26 := by omega
      clear c0 f0 y0
      rw [HOP.out] at hR
      have P1 := Lib.hid hR
      have c0 := hR.ib.cell 0
      simp only [List.getElem?_toArray, List.getElem?_cons_zero] at c0
      clear hR NM HOP P0
      go_wp2_with fail
      refine (FO.out _).mono ?_
      rintro e w2 ⟨rfl, ⟨n0, hw⟩⟩
      have P2 := Lib.hid (P1.out.later (show Below wr.heap.size wr w2 by rw [hw]; exact bdrew (Below.refl _ _) _))
      clear hw P1 c0 FO
      have y0 := P2.out.ws 1 _ HS1.out
      have q0 : (1 : Int) < (M : Int) := by omega
      go_wp2_with fail
      refine (N0.out _).mono ?_
      rintro e w3 ⟨rfl, hb⟩
      have P3 := Lib.hid (P2.out.later hb)
      have cc0 := P3.out.ib.cell 1
      have ff0 := P3.out.ib.frozen 1
      simp only [List.getElem?_toArray, List.getElem?_cons_succ, List.getElem?_cons_zero] at cc0
      have P4 := Lib.hid (P3.out.set ⟨(op : Int), v0, 0, 0, 0⟩ 1 (.int .i64 v0) rfl)
      clear hb P2 P3 y0 N0
      have y1 := P4.out.ws 2 _ HS2.out
      have q1 : (2 : Int) < (M : Int) := by omega
      go_wp2_with fail
      refine (N1.out _).mono ?_
      rintro e w4 ⟨rfl, hb⟩
      have P5 := Lib.hid (P4.out.later hb)
      have cc1 := P5.out.ib.cell 4
      have ff1 := P5.out.ib.frozen 4
      simp only [List.getElem?_toArray, List.getElem?_cons_succ, List.getElem?_cons_zero] at cc1
      have P6 := Lib.hid (P5.out.set ⟨(op : Int), v0, 0, 0, v1⟩ 4 (.int .i32 v1) rfl)
      clear hb P4 P5 y1 N1
      have d0 := P6.out.ib.cell 0
      have d1 := P6.out.ib.cell 1
      have d2 := P6.out.ib.cell 2
      have d3 := P6.out.ib.cell 3
      have d4 := P6.out.ib.cell 4
      simp only [List.getElem?_toArray, List.getElem?_cons_succ, List.getElem?_cons_zero] at d0 d1 d2 d3 d4
      go_wp2_with fail
      refine (F.out _).mono ?_
      rintro e w9 ⟨rfl, hb⟩
      have P7 := Lib.hid (P6.out.later hb)
      clear hb P6 d0 d1 d2 d3 d4 F
      have hfr := P7.out.res.frozen
      have r0 := P7.out.res.cell 0
      have r1 := P7.out.res.cell 1
      have r2 := P7.out.res.cell 2
      have r3 := P7.out.res.cell 3
      have r4 := P7.out.res.cell 4
      have d0 := P7.out.ib.cell 0
      have d1 := P7.out.ib.cell 1
      have d2 := P7.out.ib.cell 2
      have d3 := P7.out.ib.cell 3
      have d4 := P7.out.ib.cell 4
      simp only [List.getElem?_toArray, List.getElem?_cons_succ, List.getElem?_cons_zero, nilI] at r0 r1 r2 r3 r4 d0 d1 d2 d3 d4
      rcases HI.out with ⟨rfl, rfl, rfl, rfl⟩ | ⟨rfl, rfl, rfl⟩ | ⟨rfl, hne, rfl, rfl⟩
      · clear HI
        go_wp2
        obtain ⟨x1, x2⟩ := ibox_all ⟨(op : Int), v0, 0, 0, v1⟩ P7.out.res rfl
        exact res_endR x1 rfl rfl ⟨rfl, P7.out.below.trans x2⟩
      · clear HI
        go_wp2
        obtain ⟨x1, x2⟩ := ibox_all nilI P7.out.res rfl
        exact res_endR x1 rfl rfl ⟨rfl, P7.out.below.trans x2⟩
      · clear HI
        have hne' := toList_beq hne
        clear hne
        go_wp2
        obtain ⟨x1, x2⟩ := ibox_all nilI P7.out.res rfl
        exact res_endR x1 rfl rfl ⟨rfl, P7.out.below.trans x2⟩
set_option maxRecDepth 100000 in
set_option maxHeartbeats 8000000 in
theorem rp_4 (l : List UInt8) (W : World) (hl : l.length ≤ 1000000) (x0 x1 x2 x3 : ByteArray) (ws : List ByteArray) (hws : wordsB l ++ [.empty, .empty, .empty, .empty] = ws)
    (h0 : ws[0]? = some x0) (h1 : ws[1]? = some x1) (h2 : ws[2]? = some x2) (h3 : ws[3]? = some x3) (op : Nat) (hop : opTo x0 26 = op) (hf : fmt (op : Int) = 4)
    (S : ByteArray) (c : Int) (hF : ∀ W, Calls Tryz.prog 10 #[(⟨(op : Int), 0, 0, 0, 0⟩ : In).v] W fun e w' => e = .returned (.tuple #[.string S, .int .i64 c]) ∧ Below W.heap.size W w')
    (I : In) (d : Int) (hI : (c = 0 ∧ S = ⟨l.toArray⟩ ∧ I = ⟨(op : Int), 0, 0, 0, 0⟩ ∧ d = 0) ∨ (c = 1 ∧ I = nilI ∧ d = 2) ∨ (c = 0 ∧ S ≠ ⟨l.toArray⟩ ∧ I = nilI ∧ d = 2)) :
    Calls Tryz.prog 12 #[.string ⟨l.toArray⟩] W fun e w' => e = .returned (.tuple #[I.v, .int .i64 d]) ∧ Below W.heap.size W w' := by
  have WR := Lib.hid (fun w => words_ref l w hl)
  rw [hws] at WR
  have hlen := (fieldsA_len l []).1
  obtain ⟨M, hM⟩ : ∃ M, (wordsB l).length + 4 = M := ⟨_, rfl⟩
  have hM5 : 5 ≤ M := by rw [← hM]; unfold wordsB; simp; omega
  rw [hM] at WR
  have hsz : ∀ (j : Nat) (x : ByteArray), ws[j]? = some x → x.data.toList.length ≤ 1000000 := by
    intro j x hj
    have hm : x ∈ ws := List.mem_of_getElem? hj
    rw [← hws] at hm
    rcases List.mem_append.1 hm with hm | hm
    · obtain ⟨y, hy, rfl⟩ := List.mem_map.1 hm
      have := (fieldsA_len l []).2 y hy
      simp at this
      show y.length ≤ 1000000
      omega
    · simp at hm
      subst hm
      exact Nat.zero_le _
  have NM := Lib.hid (fun (k : Nat) (hk : k < 26) w => name_ref k hk w)
  have FO := Lib.hid (fun w => form_at (op : Int) _ w hf)
  have F := Lib.hid hF
  have HI := Lib.hid hI
  have HS0 := Lib.hid h0
  have HS1 := Lib.hid h1
  have HS2 := Lib.hid h2
  have HS3 := Lib.hid h3
  have HOP := Lib.hid hop
  obtain ⟨T, hT⟩ : ∃ T : ByteArray, ⟨l.toArray⟩ = T := ⟨_, rfl⟩
  rw [hT] at WR HI ⊢
  clear hI hF hws hM hlen hsz h0 h1 h2 h3 hop hf hT hl
  simp only [In.v] at F
  go_enter Tryz.func12, Tryz.ntmps12
  go_wp2_with fail
  refine (WR.out _).mono ?_
  rintro e w1 ⟨⟨g, cap, rfl, hg, hcell⟩, hb⟩
  have P0 : Hid (PSt W g w1.heap.size ws nilI (w1.alloc (.cells zeros 27))) := Lib.hid ⟨(((Below.refl _ W).alloc (Nat.le_refl _) _).trans (hb.mono (by simp))).alloc (by have := hb.size; simp at this; omega) _,
    fun j x hj => (World.cell?_alloc_lt _ _ ⟨g, j, none⟩ hg).trans (hcell j x hj), ((Below.heap_alloc w1 _ _ (by have := hb.size; simp at this; omega))).trans ((hb.block _ (by simp)).trans (World.alloc_heap_new W _)), World.alloc_heap_new w1 _, by have := hb.size; simp at this; omega, hg⟩
  obtain ⟨bi, hbi⟩ : ∃ bi, w1.heap.size = bi := ⟨_, rfl⟩
  rw [hbi] at P0
  clear hb hcell WR hg
  go_wp2_with fail
  go_loopw [6] (fun vi wr => ∃ k : Nat, 1 ≤ k ∧ k ≤ 26 ∧ vi = .int .i64 (k : Int) ∧ PSt W g bi ws ⟨opTo x0 k, 0, 0, 0, 0⟩ wr) (fun vi _ => 26 - (intOf vi).toNat)
  case atStart => exact ⟨1, by omega, by omega, rfl, by rw [opTo_one]; exact P0.out⟩
  case round =>
    obtain ⟨k, hk1, hk, rfl, hR⟩ := hrel
    have c0 := hR.ib.cell 0
    have f0 := hR.ib.frozen 0
    have y0 := hR.ws 0 _ HS0.out
    simp only [List.getElem?_toArray, List.getElem?_cons_zero] at c0
    by_cases hk26 : k < 26
    · have q1 : (k : Int) ≤ 25 := by omega
      have q2 : (0 : Int) < (M : Int) := by omega
      have q2n : 0 < M := by omega
      have NK := Lib.hid (fun w => NM.out k hk26 w)
      have ho : Hid (opTo x0 (k + 1) = if nm (k : Int) = x0 ∧ nm (k : Int) ≠ .empty then k else opTo x0 k) := Lib.hid rfl
      have hne : nm (k : Int) ≠ .empty := nm_ne k hk26 hk1
      obtain ⟨N, hN⟩ : ∃ N, nm (k : Int) = N := ⟨_, rfl⟩
      rw [hN] at NK ho hne
      clear hN
      by_cases hN1 : N = x0
      · subst hN1
        have ho' : Hid (opTo N (k + 1) = k) := Lib.hid (by rw [ho.out, if_pos ⟨rfl, hne⟩])
        clear ho hne
        have hR := Lib.hid hR
        go_wp2_with fail
        go_region_held3 (fun w => (w.cell? ⟨g, 0, none⟩ = some (.string N)) ∧ (w.frozen? ⟨bi, 0, none⟩ = false) ∧ Hid (PSt W g bi ws ⟨opTo N k, 0, 0, 0, 0⟩ w))
          (first | (exact ⟨y0, f0, Lib.hid (hR.out.later (Below.drew (Below.refl _ _)))⟩) | (have PK : PSt W g bi ws ⟨opTo N k, 0, 0, 0, 0⟩ w' := PSt.keep3 (by assumption) hbc; exact ⟨PK.ws 0 _ HS0.out, PK.ib.frozen 0, Lib.hid PK⟩) | go_keep)
          (first | (go_at_call 33; refine (NK.out _).mono ?_; rintro e w' ⟨rfl, hbc⟩))
        all_goals
          obtain ⟨f1, PK⟩ : w'.frozen? ⟨bi, 0, none⟩ = false ∧ Hid (PSt W g bi ws ⟨opTo N k, 0, 0, 0, 0⟩ w') := PSt.got (by assumption)
          have c1 := PK.out.ib.cell 0
          simp only [List.getElem?_toArray, List.getElem?_cons_zero] at c1
          have PK1 : Hid (PSt W g bi ws ⟨opTo N (k + 1), 0, 0, 0, 0⟩ (w'.setCell ⟨bi, 0, none⟩ (.int .i64 k))) := Lib.hid (by rw [ho'.out]; exact PK.out.set ⟨k, 0, 0, 0, 0⟩ 0 _ rfl)
          clear PK hR ho' c0 f0 y0
          go_wp2
          go_roundw
        all_goals first | exact ⟨k + 1, by omega, by omega, by go_num, PK1.out⟩ | (simp [intOf]; omega)
      · have ho' : Hid (opTo x0 (k + 1) = opTo x0 k) := Lib.hid (by rw [ho.out, if_neg (fun h => hN1 h.1)])
        have hN2 : ¬ N.toList = x0.toList := fun h => hN1 (toList_inj h)
        have hN3 : ¬ (N.toList == x0.toList) = true := fun h => hN2 (by simpa using h)
        clear ho hne hN1
        have hR := Lib.hid hR
        go_wp2_with fail
        go_region_held3 (fun w => (w.cell? ⟨g, 0, none⟩ = some (.string x0)) ∧ (w.frozen? ⟨bi, 0, none⟩ = false) ∧ Hid (PSt W g bi ws ⟨opTo x0 k, 0, 0, 0, 0⟩ w))
          (first | (exact ⟨y0, f0, Lib.hid (hR.out.later (Below.drew (Below.refl _ _)))⟩) | (have PK : PSt W g bi ws ⟨opTo x0 k, 0, 0, 0, 0⟩ w' := PSt.keep3 (by assumption) hbc; exact ⟨PK.ws 0 _ HS0.out, PK.ib.frozen 0, Lib.hid PK⟩) | go_keep)
          (first | (go_at_call 33; refine (NK.out _).mono ?_; rintro e w' ⟨rfl, hbc⟩))
        all_goals
          obtain ⟨f1, PK⟩ : w'.frozen? ⟨bi, 0, none⟩ = false ∧ Hid (PSt W g bi ws ⟨opTo x0 k, 0, 0, 0, 0⟩ w') := PSt.got (by assumption)
          have PK1 : Hid (PSt W g bi ws ⟨opTo x0 (k + 1), 0, 0, 0, 0⟩ w') := Lib.hid (by rw [ho'.out]; exact PK.out)
          clear PK hR ho' c0 f0 y0
          go_wp2
          go_roundw
        all_goals first | exact ⟨k + 1, by omega, by omega, by go_num, PK1.out⟩ | (simp [intOf]; omega)
    · obtain rfl : k = 26 := by omega
      clear c0 f0 y0
      rw [HOP.out] at hR
      have P1 := Lib.hid hR
      have c0 := hR.ib.cell 0
      simp only [List.getElem?_toArray, List.getElem?_cons_zero] at c0
      clear hR NM HOP P0
      go_wp2_with fail
      refine (FO.out _).mono ?_
      rintro e w2 ⟨rfl, ⟨n0, hw⟩⟩
      have P2 := Lib.hid (P1.out.later (show Below wr.heap.size wr w2 by rw [hw]; exact bdrew (Below.refl _ _) _))
      clear hw P1 c0 FO
      have d0 := P2.out.ib.cell 0
      have d1 := P2.out.ib.cell 1
      have d2 := P2.out.ib.cell 2
      have d3 := P2.out.ib.cell 3
      have d4 := P2.out.ib.cell 4
      simp only [List.getElem?_toArray, List.getElem?_cons_succ, List.getElem?_cons_zero] at d0 d1 d2 d3 d4
      go_wp2_with fail
      refine (F.out _).mono ?_
      rintro e w9 ⟨rfl, hb⟩
      have P3 := Lib.hid (P2.out.later hb)
      clear hb P2 d0 d1 d2 d3 d4 F
      have hfr := P3.out.res.frozen
      have r0 := P3.out.res.cell 0
      have r1 := P3.out.res.cell 1
      have r2 := P3.out.res.cell 2
      have r3 := P3.out.res.cell 3
      have r4 := P3.out.res.cell 4
      have d0 := P3.out.ib.cell 0
      have d1 := P3.out.ib.cell 1
      have d2 := P3.out.ib.cell 2
      have d3 := P3.out.ib.cell 3
      have d4 := P3.out.ib.cell 4
      simp only [List.getElem?_toArray, List.getElem?_cons_succ, List.getElem?_cons_zero, nilI] at r0 r1 r2 r3 r4 d0 d1 d2 d3 d4
      rcases HI.out with ⟨rfl, rfl, rfl, rfl⟩ | ⟨rfl, rfl, rfl⟩ | ⟨rfl, hne, rfl, rfl⟩
      · clear HI
        go_wp2
        obtain ⟨x1, x2⟩ := ibox_all ⟨(op : Int), 0, 0, 0, 0⟩ P3.out.res rfl
        exact res_endR x1 rfl rfl ⟨rfl, P3.out.below.trans x2⟩
      · clear HI
        go_wp2
        obtain ⟨x1, x2⟩ := ibox_all nilI P3.out.res rfl
        exact res_endR x1 rfl rfl ⟨rfl, P3.out.below.trans x2⟩
      · clear HI
        have hne' := toList_beq hne
        clear hne
        go_wp2
        obtain ⟨x1, x2⟩ := ibox_all nilI P3.out.res rfl
        exact res_endR x1 rfl rfl ⟨rfl, P3.out.below.trans x2⟩
set_option maxRecDepth 100000 in
set_option maxHeartbeats 8000000 in
theorem rp_5 (l : List UInt8) (W : World) (hl : l.length ≤ 1000000) (x0 x1 x2 x3 : ByteArray) (ws : List ByteArray) (hws : wordsB l ++ [.empty, .empty, .empty, .empty] = ws)
    (h0 : ws[0]? = some x0) (h1 : ws[1]? = some x1) (h2 : ws[2]? = some x2) (h3 : ws[3]? = some x3) (op : Nat) (hop : opTo x0 26 = op) (hf : fmt (op : Int) = 5) (v0 : Int) (n0 : numR x1.data.toList 1 = v0) (v1 : Int) (n1 : numR x2.data.toList 1 = v1)
    (S : ByteArray) (c : Int) (hF : ∀ W, Calls Tryz.prog 10 #[(⟨(op : Int), v0, 0, 0, v1⟩ : In).v] W fun e w' => e = .returned (.tuple #[.string S, .int .i64 c]) ∧ Below W.heap.size W w')
    (I : In) (d : Int) (hI : (c = 0 ∧ S = ⟨l.toArray⟩ ∧ I = ⟨(op : Int), v0, 0, 0, v1⟩ ∧ d = 0) ∨ (c = 1 ∧ I = nilI ∧ d = 2) ∨ (c = 0 ∧ S ≠ ⟨l.toArray⟩ ∧ I = nilI ∧ d = 2)) :
    Calls Tryz.prog 12 #[.string ⟨l.toArray⟩] W fun e w' => e = .returned (.tuple #[I.v, .int .i64 d]) ∧ Below W.heap.size W w' := by
  have WR := Lib.hid (fun w => words_ref l w hl)
  rw [hws] at WR
  have hlen := (fieldsA_len l []).1
  obtain ⟨M, hM⟩ : ∃ M, (wordsB l).length + 4 = M := ⟨_, rfl⟩
  have hM5 : 5 ≤ M := by rw [← hM]; unfold wordsB; simp; omega
  rw [hM] at WR
  have hsz : ∀ (j : Nat) (x : ByteArray), ws[j]? = some x → x.data.toList.length ≤ 1000000 := by
    intro j x hj
    have hm : x ∈ ws := List.mem_of_getElem? hj
    rw [← hws] at hm
    rcases List.mem_append.1 hm with hm | hm
    · obtain ⟨y, hy, rfl⟩ := List.mem_map.1 hm
      have := (fieldsA_len l []).2 y hy
      simp at this
      show y.length ≤ 1000000
      omega
    · simp at hm
      subst hm
      exact Nat.zero_le _
  have NM := Lib.hid (fun (k : Nat) (hk : k < 26) w => name_ref k hk w)
  have FO := Lib.hid (fun w => form_at (op : Int) _ w hf)
  have F := Lib.hid hF
  have HI := Lib.hid hI
  have N0 := Lib.hid (fun w => num_ref x1.data.toList 1 w (by omega) (hsz 1 x1 h1))
  rw [n0] at N0
  have b0 := numR_bound x1.data.toList 1
  rw [n0] at b0
  have N1 := Lib.hid (fun w => num_ref x2.data.toList 1 w (by omega) (hsz 2 x2 h2))
  rw [n1] at N1
  have b1 := numR_bound x2.data.toList 1
  rw [n1] at b1
  have z1 : IntKind.i32.wrap v1 = v1 := by rw [IntKind.wrap_i32]; omega
  have HS0 := Lib.hid h0
  have HS1 := Lib.hid h1
  have HS2 := Lib.hid h2
  have HS3 := Lib.hid h3
  have HOP := Lib.hid hop
  obtain ⟨T, hT⟩ : ∃ T : ByteArray, ⟨l.toArray⟩ = T := ⟨_, rfl⟩
  rw [hT] at WR HI ⊢
  clear hI hF hws hM hlen hsz h0 h1 h2 h3 hop hf hT hl n0 n1
  simp only [In.v] at F
  go_enter Tryz.func12, Tryz.ntmps12
  go_wp2_with fail
  refine (WR.out _).mono ?_
  rintro e w1 ⟨⟨g, cap, rfl, hg, hcell⟩, hb⟩
  have P0 : Hid (PSt W g w1.heap.size ws nilI (w1.alloc (.cells zeros 27))) := Lib.hid ⟨(((Below.refl _ W).alloc (Nat.le_refl _) _).trans (hb.mono (by simp))).alloc (by have := hb.size; simp at this; omega) _,
    fun j x hj => (World.cell?_alloc_lt _ _ ⟨g, j, none⟩ hg).trans (hcell j x hj), ((Below.heap_alloc w1 _ _ (by have := hb.size; simp at this; omega))).trans ((hb.block _ (by simp)).trans (World.alloc_heap_new W _)), World.alloc_heap_new w1 _, by have := hb.size; simp at this; omega, hg⟩
  obtain ⟨bi, hbi⟩ : ∃ bi, w1.heap.size = bi := ⟨_, rfl⟩
  rw [hbi] at P0
  clear hb hcell WR hg
  go_wp2_with fail
  go_loopw [6] (fun vi wr => ∃ k : Nat, 1 ≤ k ∧ k ≤ 26 ∧ vi = .int .i64 (k : Int) ∧ PSt W g bi ws ⟨opTo x0 k, 0, 0, 0, 0⟩ wr) (fun vi _ => 26 - (intOf vi).toNat)
  case atStart => exact ⟨1, by omega, by omega, rfl, by rw [opTo_one]; exact P0.out⟩
  case round =>
    obtain ⟨k, hk1, hk, rfl, hR⟩ := hrel
    have c0 := hR.ib.cell 0
    have f0 := hR.ib.frozen 0
    have y0 := hR.ws 0 _ HS0.out
    simp only [List.getElem?_toArray, List.getElem?_cons_zero] at c0
    by_cases hk26 : k < 26
    · have q1 : (k : Int) ≤ 25 := by omega
      have q2 : (0 : Int) < (M : Int) := by omega
      have q2n : 0 < M := by omega
      have NK := Lib.hid (fun w => NM.out k hk26 w)
      have ho : Hid (opTo x0 (k + 1) = if nm (k : Int) = x0 ∧ nm (k : Int) ≠ .empty then k else opTo x0 k) := Lib.hid rfl
      have hne : nm (k : Int) ≠ .empty := nm_ne k hk26 hk1
      obtain ⟨N, hN⟩ : ∃ N, nm (k : Int) = N := ⟨_, rfl⟩
      rw [hN] at NK ho hne
      clear hN
      by_cases hN1 : N = x0
      · subst hN1
        have ho' : Hid (opTo N (k + 1) = k) := Lib.hid (by rw [ho.out, if_pos ⟨rfl, hne⟩])
        clear ho hne
        have hR := Lib.hid hR
        go_wp2_with fail
        go_region_held3 (fun w => (w.cell? ⟨g, 0, none⟩ = some (.string N)) ∧ (w.frozen? ⟨bi, 0, none⟩ = false) ∧ Hid (PSt W g bi ws ⟨opTo N k, 0, 0, 0, 0⟩ w))
          (first | (exact ⟨y0, f0, Lib.hid (hR.out.later (Below.drew (Below.refl _ _)))⟩) | (have PK : PSt W g bi ws ⟨opTo N k, 0, 0, 0, 0⟩ w' := PSt.keep3 (by assumption) hbc; exact ⟨PK.ws 0 _ HS0.out, PK.ib.frozen 0, Lib.hid PK⟩) | go_keep)
          (first | (go_at_call 33; refine (NK.out _).mono ?_; rintro e w' ⟨rfl, hbc⟩))
        all_goals
          obtain ⟨f1, PK⟩ : w'.frozen? ⟨bi, 0, none⟩ = false ∧ Hid (PSt W g bi ws ⟨opTo N k, 0, 0, 0, 0⟩ w') := PSt.got (by assumption)
          have c1 := PK.out.ib.cell 0
          simp only [List.getElem?_toArray, List.getElem?_cons_zero] at c1
          have PK1 : Hid (PSt W g bi ws ⟨opTo N (k + 1), 0, 0, 0, 0⟩ (w'.setCell ⟨bi, 0, none⟩ (.int .i64 k))) := Lib.hid (by rw [ho'.out]; exact PK.out.set ⟨k, 0, 0, 0, 0⟩ 0 _ rfl)
          clear PK hR ho' c0 f0 y0
          go_wp2
          go_roundw
        all_goals first | exact ⟨k + 1, by omega, by omega, by go_num, PK1.out⟩ | (simp [intOf]; omega)
      · have ho' : Hid (opTo x0 (k + 1) = opTo x0 k) := Lib.hid (by rw [ho.out, if_neg (fun h => hN1 h.1)])
        have hN2 : ¬ N.toList = x0.toList := fun h => hN1 (toList_inj h)
        have hN3 : ¬ (N.toList == x0.toList) = true := fun h => hN2 (by simpa using h)
        clear ho hne hN1
        have hR := Lib.hid hR
        go_wp2_with fail
        go_region_held3 (fun w => (w.cell? ⟨g, 0, none⟩ = some (.string x0)) ∧ (w.frozen? ⟨bi, 0, none⟩ = false) ∧ Hid (PSt W g bi ws ⟨opTo x0 k, 0, 0, 0, 0⟩ w))
          (first | (exact ⟨y0, f0, Lib.hid (hR.out.later (Below.drew (Below.refl _ _)))⟩) | (have PK : PSt W g bi ws ⟨opTo x0 k, 0, 0, 0, 0⟩ w' := PSt.keep3 (by assumption) hbc; exact ⟨PK.ws 0 _ HS0.out, PK.ib.frozen 0, Lib.hid PK⟩) | go_keep)
          (first | (go_at_call 33; refine (NK.out _).mono ?_; rintro e w' ⟨rfl, hbc⟩))
        all_goals
          obtain ⟨f1, PK⟩ : w'.frozen? ⟨bi, 0, none⟩ = false ∧ Hid (PSt W g bi ws ⟨opTo x0 k, 0, 0, 0, 0⟩ w') := PSt.got (by assumption)
          have PK1 : Hid (PSt W g bi ws ⟨opTo x0 (k + 1), 0, 0, 0, 0⟩ w') := Lib.hid (by rw [ho'.out]; exact PK.out)
          clear PK hR ho' c0 f0 y0
          go_wp2
          go_roundw
        all_goals first | exact ⟨k + 1, by omega, by omega, by go_num, PK1.out⟩ | (simp [intOf]; omega)
    · obtain rfl : k = 26 := by omega
      clear c0 f0 y0
      rw [HOP.out] at hR
      have P1 := Lib.hid hR
      have c0 := hR.ib.cell 0
      simp only [List.getElem?_toArray, List.getElem?_cons_zero] at c0
      clear hR NM HOP P0
      go_wp2_with fail
      refine (FO.out _).mono ?_
      rintro e w2 ⟨rfl, ⟨n0, hw⟩⟩
      have P2 := Lib.hid (P1.out.later (show Below wr.heap.size wr w2 by rw [hw]; exact bdrew (Below.refl _ _) _))
      clear hw P1 c0 FO
      have y0 := P2.out.ws 1 _ HS1.out
      have q0 : (1 : Int) < (M : Int) := by omega
      go_wp2_with fail
      refine (N0.out _).mono ?_
      rintro e w3 ⟨rfl, hb⟩
      have P3 := Lib.hid (P2.out.later hb)
      have cc0 := P3.out.ib.cell 1
      have ff0 := P3.out.ib.frozen 1
      simp only [List.getElem?_toArray, List.getElem?_cons_succ, List.getElem?_cons_zero] at cc0
      have P4 := Lib.hid (P3.out.set ⟨(op : Int), v0, 0, 0, 0⟩ 1 (.int .i64 v0) rfl)
      clear hb P2 P3 y0 N0
      have y1 := P4.out.ws 2 _ HS2.out
      have q1 : (2 : Int) < (M : Int) := by omega
      go_wp2_with fail
      refine (N1.out _).mono ?_
      rintro e w4 ⟨rfl, hb⟩
      have P5 := Lib.hid (P4.out.later hb)
      have cc1 := P5.out.ib.cell 4
      have ff1 := P5.out.ib.frozen 4
      simp only [List.getElem?_toArray, List.getElem?_cons_succ, List.getElem?_cons_zero] at cc1
      have P6 := Lib.hid (P5.out.set ⟨(op : Int), v0, 0, 0, v1⟩ 4 (.int .i32 v1) rfl)
      clear hb P4 P5 y1 N1
      have d0 := P6.out.ib.cell 0
      have d1 := P6.out.ib.cell 1
      have d2 := P6.out.ib.cell 2
      have d3 := P6.out.ib.cell 3
      have d4 := P6.out.ib.cell 4
      simp only [List.getElem?_toArray, List.getElem?_cons_succ, List.getElem?_cons_zero] at d0 d1 d2 d3 d4
      go_wp2_with fail
      refine (F.out _).mono ?_
      rintro e w9 ⟨rfl, hb⟩
      have P7 := Lib.hid (P6.out.later hb)
      clear hb P6 d0 d1 d2 d3 d4 F
      have hfr := P7.out.res.frozen
      have r0 := P7.out.res.cell 0
      have r1 := P7.out.res.cell 1
      have r2 := P7.out.res.cell 2
      have r3 := P7.out.res.cell 3
      have r4 := P7.out.res.cell 4
      have d0 := P7.out.ib.cell 0
      have d1 := P7.out.ib.cell 1
      have d2 := P7.out.ib.cell 2
      have d3 := P7.out.ib.cell 3
      have d4 := P7.out.ib.cell 4
      simp only [List.getElem?_toArray, List.getElem?_cons_succ, List.getElem?_cons_zero, nilI] at r0 r1 r2 r3 r4 d0 d1 d2 d3 d4
      rcases HI.out with ⟨rfl, rfl, rfl, rfl⟩ | ⟨rfl, rfl, rfl⟩ | ⟨rfl, hne, rfl, rfl⟩
      · clear HI
        go_wp2
        obtain ⟨x1, x2⟩ := ibox_all ⟨(op : Int), v0, 0, 0, v1⟩ P7.out.res rfl
        exact res_endR x1 rfl rfl ⟨rfl, P7.out.below.trans x2⟩
      · clear HI
        go_wp2
        obtain ⟨x1, x2⟩ := ibox_all nilI P7.out.res rfl
        exact res_endR x1 rfl rfl ⟨rfl, P7.out.below.trans x2⟩
      · clear HI
        have hne' := toList_beq hne
        clear hne
        go_wp2
        obtain ⟨x1, x2⟩ := ibox_all nilI P7.out.res rfl
        exact res_endR x1 rfl rfl ⟨rfl, P7.out.below.trans x2⟩
set_option maxRecDepth 100000 in
set_option maxHeartbeats 8000000 in
theorem rp_6 (l : List UInt8) (W : World) (hl : l.length ≤ 1000000) (x0 x1 x2 x3 : ByteArray) (ws : List ByteArray) (hws : wordsB l ++ [.empty, .empty, .empty, .empty] = ws)
    (h0 : ws[0]? = some x0) (h1 : ws[1]? = some x1) (h2 : ws[2]? = some x2) (h3 : ws[3]? = some x3) (op : Nat) (hop : opTo x0 26 = op) (hf : fmt (op : Int) = 6) (v0 : Int) (n0 : numR x1.data.toList 1 = v0) (v1 : Int) (n1 : numR x2.data.toList 1 = v1)
    (S : ByteArray) (c : Int) (hF : ∀ W, Calls Tryz.prog 10 #[(⟨(op : Int), 0, v1, 0, v0⟩ : In).v] W fun e w' => e = .returned (.tuple #[.string S, .int .i64 c]) ∧ Below W.heap.size W w')
    (I : In) (d : Int) (hI : (c = 0 ∧ S = ⟨l.toArray⟩ ∧ I = ⟨(op : Int), 0, v1, 0, v0⟩ ∧ d = 0) ∨ (c = 1 ∧ I = nilI ∧ d = 2) ∨ (c = 0 ∧ S ≠ ⟨l.toArray⟩ ∧ I = nilI ∧ d = 2)) :
    Calls Tryz.prog 12 #[.string ⟨l.toArray⟩] W fun e w' => e = .returned (.tuple #[I.v, .int .i64 d]) ∧ Below W.heap.size W w' := by
  have WR := Lib.hid (fun w => words_ref l w hl)
  rw [hws] at WR
  have hlen := (fieldsA_len l []).1
  obtain ⟨M, hM⟩ : ∃ M, (wordsB l).length + 4 = M := ⟨_, rfl⟩
  have hM5 : 5 ≤ M := by rw [← hM]; unfold wordsB; simp; omega
  rw [hM] at WR
  have hsz : ∀ (j : Nat) (x : ByteArray), ws[j]? = some x → x.data.toList.length ≤ 1000000 := by
    intro j x hj
    have hm : x ∈ ws := List.mem_of_getElem? hj
    rw [← hws] at hm
    rcases List.mem_append.1 hm with hm | hm
    · obtain ⟨y, hy, rfl⟩ := List.mem_map.1 hm
      have := (fieldsA_len l []).2 y hy
      simp at this
      show y.length ≤ 1000000
      omega
    · simp at hm
      subst hm
      exact Nat.zero_le _
  have NM := Lib.hid (fun (k : Nat) (hk : k < 26) w => name_ref k hk w)
  have FO := Lib.hid (fun w => form_at (op : Int) _ w hf)
  have F := Lib.hid hF
  have HI := Lib.hid hI
  have N0 := Lib.hid (fun w => num_ref x1.data.toList 1 w (by omega) (hsz 1 x1 h1))
  rw [n0] at N0
  have b0 := numR_bound x1.data.toList 1
  rw [n0] at b0
  have z0 : IntKind.i32.wrap v0 = v0 := by rw [IntKind.wrap_i32]; omega
  have N1 := Lib.hid (fun w => num_ref x2.data.toList 1 w (by omega) (hsz 2 x2 h2))
  rw [n1] at N1
  have b1 := numR_bound x2.data.toList 1
  rw [n1] at b1
  have HS0 := Lib.hid h0
  have HS1 := Lib.hid h1
  have HS2 := Lib.hid h2
  have HS3 := Lib.hid h3
  have HOP := Lib.hid hop
  obtain ⟨T, hT⟩ : ∃ T : ByteArray, ⟨l.toArray⟩ = T := ⟨_, rfl⟩
  rw [hT] at WR HI ⊢
  clear hI hF hws hM hlen hsz h0 h1 h2 h3 hop hf hT hl n0 n1
  simp only [In.v] at F
  go_enter Tryz.func12, Tryz.ntmps12
  go_wp2_with fail
  refine (WR.out _).mono ?_
  rintro e w1 ⟨⟨g, cap, rfl, hg, hcell⟩, hb⟩
  have P0 : Hid (PSt W g w1.heap.size ws nilI (w1.alloc (.cells zeros 27))) := Lib.hid ⟨(((Below.refl _ W).alloc (Nat.le_refl _) _).trans (hb.mono (by simp))).alloc (by have := hb.size; simp at this; omega) _,
    fun j x hj => (World.cell?_alloc_lt _ _ ⟨g, j, none⟩ hg).trans (hcell j x hj), ((Below.heap_alloc w1 _ _ (by have := hb.size; simp at this; omega))).trans ((hb.block _ (by simp)).trans (World.alloc_heap_new W _)), World.alloc_heap_new w1 _, by have := hb.size; simp at this; omega, hg⟩
  obtain ⟨bi, hbi⟩ : ∃ bi, w1.heap.size = bi := ⟨_, rfl⟩
  rw [hbi] at P0
  clear hb hcell WR hg
  go_wp2_with fail
  go_loopw [6] (fun vi wr => ∃ k : Nat, 1 ≤ k ∧ k ≤ 26 ∧ vi = .int .i64 (k : Int) ∧ PSt W g bi ws ⟨opTo x0 k, 0, 0, 0, 0⟩ wr) (fun vi _ => 26 - (intOf vi).toNat)
  case atStart => exact ⟨1, by omega, by omega, rfl, by rw [opTo_one]; exact P0.out⟩
  case round =>
    obtain ⟨k, hk1, hk, rfl, hR⟩ := hrel
    have c0 := hR.ib.cell 0
    have f0 := hR.ib.frozen 0
    have y0 := hR.ws 0 _ HS0.out
    simp only [List.getElem?_toArray, List.getElem?_cons_zero] at c0
    by_cases hk26 : k < 26
    · have q1 : (k : Int) ≤ 25 := by omega
      have q2 : (0 : Int) < (M : Int) := by omega
      have q2n : 0 < M := by omega
      have NK := Lib.hid (fun w => NM.out k hk26 w)
      have ho : Hid (opTo x0 (k + 1) = if nm (k : Int) = x0 ∧ nm (k : Int) ≠ .empty then k else opTo x0 k) := Lib.hid rfl
      have hne : nm (k : Int) ≠ .empty := nm_ne k hk26 hk1
      obtain ⟨N, hN⟩ : ∃ N, nm (k : Int) = N := ⟨_, rfl⟩
      rw [hN] at NK ho hne
      clear hN
      by_cases hN1 : N = x0
      · subst hN1
        have ho' : Hid (opTo N (k + 1) = k) := Lib.hid (by rw [ho.out, if_pos ⟨rfl, hne⟩])
        clear ho hne
        have hR := Lib.hid hR
        go_wp2_with fail
        go_region_held3 (fun w => (w.cell? ⟨g, 0, none⟩ = some (.string N)) ∧ (w.frozen? ⟨bi, 0, none⟩ = false) ∧ Hid (PSt W g bi ws ⟨opTo N k, 0, 0, 0, 0⟩ w))
          (first | (exact ⟨y0, f0, Lib.hid (hR.out.later (Below.drew (Below.refl _ _)))⟩) | (have PK : PSt W g bi ws ⟨opTo N k, 0, 0, 0, 0⟩ w' := PSt.keep3 (by assumption) hbc; exact ⟨PK.ws 0 _ HS0.out, PK.ib.frozen 0, Lib.hid PK⟩) | go_keep)
          (first | (go_at_call 33; refine (NK.out _).mono ?_; rintro e w' ⟨rfl, hbc⟩))
        all_goals
          obtain ⟨f1, PK⟩ : w'.frozen? ⟨bi, 0, none⟩ = false ∧ Hid (PSt W g bi ws ⟨opTo N k, 0, 0, 0, 0⟩ w') := PSt.got (by assumption)
          have c1 := PK.out.ib.cell 0
          simp only [List.getElem?_toArray, List.getElem?_cons_zero] at c1
          have PK1 : Hid (PSt W g bi ws ⟨opTo N (k + 1), 0, 0, 0, 0⟩ (w'.setCell ⟨bi, 0, none⟩ (.int .i64 k))) := Lib.hid (by rw [ho'.out]; exact PK.out.set ⟨k, 0, 0, 0, 0⟩ 0 _ rfl)
          clear PK hR ho' c0 f0 y0
          go_wp2
          go_roundw
        all_goals first | exact ⟨k + 1, by omega, by omega, by go_num, PK1.out⟩ | (simp [intOf]; omega)
      · have ho' : Hid (opTo x0 (k + 1) = opTo x0 k) := Lib.hid (by rw [ho.out, if_neg (fun h => hN1 h.1)])
        have hN2 : ¬ N.toList = x0.toList := fun h => hN1 (toList_inj h)
        have hN3 : ¬ (N.toList == x0.toList) = true := fun h => hN2 (by simpa using h)
        clear ho hne hN1
        have hR := Lib.hid hR
        go_wp2_with fail
        go_region_held3 (fun w => (w.cell? ⟨g, 0, none⟩ = some (.string x0)) ∧ (w.frozen? ⟨bi, 0, none⟩ = false) ∧ Hid (PSt W g bi ws ⟨opTo x0 k, 0, 0, 0, 0⟩ w))
          (first | (exact ⟨y0, f0, Lib.hid (hR.out.later (Below.drew (Below.refl _ _)))⟩) | (have PK : PSt W g bi ws ⟨opTo x0 k, 0, 0, 0, 0⟩ w' := PSt.keep3 (by assumption) hbc; exact ⟨PK.ws 0 _ HS0.out, PK.ib.frozen 0, Lib.hid PK⟩) | go_keep)
          (first | (go_at_call 33; refine (NK.out _).mono ?_; rintro e w' ⟨rfl, hbc⟩))
        all_goals
          obtain ⟨f1, PK⟩ : w'.frozen? ⟨bi, 0, none⟩ = false ∧ Hid (PSt W g bi ws ⟨opTo x0 k, 0, 0, 0, 0⟩ w') := PSt.got (by assumption)
          have PK1 : Hid (PSt W g bi ws ⟨opTo x0 (k + 1), 0, 0, 0, 0⟩ w') := Lib.hid (by rw [ho'.out]; exact PK.out)
          clear PK hR ho' c0 f0 y0
          go_wp2
          go_roundw
        all_goals first | exact ⟨k + 1, by omega, by omega, by go_num, PK1.out⟩ | (simp [intOf]; omega)
    · obtain rfl : k = 26 := by omega
      clear c0 f0 y0
      rw [HOP.out] at hR
      have P1 := Lib.hid hR
      have c0 := hR.ib.cell 0
      simp only [List.getElem?_toArray, List.getElem?_cons_zero] at c0
      clear hR NM HOP P0
      go_wp2_with fail
      refine (FO.out _).mono ?_
      rintro e w2 ⟨rfl, ⟨n0, hw⟩⟩
      have P2 := Lib.hid (P1.out.later (show Below wr.heap.size wr w2 by rw [hw]; exact bdrew (Below.refl _ _) _))
      clear hw P1 c0 FO
      have y0 := P2.out.ws 1 _ HS1.out
      have q0 : (1 : Int) < (M : Int) := by omega
      go_wp2_with fail
      refine (N0.out _).mono ?_
      rintro e w3 ⟨rfl, hb⟩
      have P3 := Lib.hid (P2.out.later hb)
      have cc0 := P3.out.ib.cell 4
      have ff0 := P3.out.ib.frozen 4
      simp only [List.getElem?_toArray, List.getElem?_cons_succ, List.getElem?_cons_zero] at cc0
      have P4 := Lib.hid (P3.out.set ⟨(op : Int), 0, 0, 0, v0⟩ 4 (.int .i32 v0) rfl)
      clear hb P2 P3 y0 N0
      have y1 := P4.out.ws 2 _ HS2.out
      have q1 : (2 : Int) < (M : Int) := by omega
      go_wp2_with fail
      refine (N1.out _).mono ?_
      rintro e w4 ⟨rfl, hb⟩
      have P5 := Lib.hid (P4.out.later hb)
      have cc1 := P5.out.ib.cell 2
      have ff1 := P5.out.ib.frozen 2
      simp only [List.getElem?_toArray, List.getElem?_cons_succ, List.getElem?_cons_zero] at cc1
      have P6 := Lib.hid (P5.out.set ⟨(op : Int), 0, v1, 0, v0⟩ 2 (.int .i64 v1) rfl)
      clear hb P4 P5 y1 N1
      have d0 := P6.out.ib.cell 0
      have d1 := P6.out.ib.cell 1
      have d2 := P6.out.ib.cell 2
      have d3 := P6.out.ib.cell 3
      have d4 := P6.out.ib.cell 4
      simp only [List.getElem?_toArray, List.getElem?_cons_succ, List.getElem?_cons_zero] at d0 d1 d2 d3 d4
      go_wp2_with fail
      refine (F.out _).mono ?_
      rintro e w9 ⟨rfl, hb⟩
      have P7 := Lib.hid (P6.out.later hb)
      clear hb P6 d0 d1 d2 d3 d4 F
      have hfr := P7.out.res.frozen
      have r0 := P7.out.res.cell 0
      have r1 := P7.out.res.cell 1
      have r2 := P7.out.res.cell 2
      have r3 := P7.out.res.cell 3
      have r4 := P7.out.res.cell 4
      have d0 := P7.out.ib.cell 0
      have d1 := P7.out.ib.cell 1
      have d2 := P7.out.ib.cell 2
      have d3 := P7.out.ib.cell 3
      have d4 := P7.out.ib.cell 4
      simp only [List.getElem?_toArray, List.getElem?_cons_succ, List.getElem?_cons_zero, nilI] at r0 r1 r2 r3 r4 d0 d1 d2 d3 d4
      rcases HI.out with ⟨rfl, rfl, rfl, rfl⟩ | ⟨rfl, rfl, rfl⟩ | ⟨rfl, hne, rfl, rfl⟩
      · clear HI
        go_wp2
        obtain ⟨x1, x2⟩ := ibox_all ⟨(op : Int), 0, v1, 0, v0⟩ P7.out.res rfl
        exact res_endR x1 rfl rfl ⟨rfl, P7.out.below.trans x2⟩
      · clear HI
        go_wp2
        obtain ⟨x1, x2⟩ := ibox_all nilI P7.out.res rfl
        exact res_endR x1 rfl rfl ⟨rfl, P7.out.below.trans x2⟩
      · clear HI
        have hne' := toList_beq hne
        clear hne
        go_wp2
        obtain ⟨x1, x2⟩ := ibox_all nilI P7.out.res rfl
        exact res_endR x1 rfl rfl ⟨rfl, P7.out.below.trans x2⟩
set_option maxRecDepth 100000 in
set_option maxHeartbeats 8000000 in
theorem rp_7 (l : List UInt8) (W : World) (hl : l.length ≤ 1000000) (x0 x1 x2 x3 : ByteArray) (ws : List ByteArray) (hws : wordsB l ++ [.empty, .empty, .empty, .empty] = ws)
    (h0 : ws[0]? = some x0) (h1 : ws[1]? = some x1) (h2 : ws[2]? = some x2) (h3 : ws[3]? = some x3) (op : Nat) (hop : opTo x0 26 = op) (hf : fmt (op : Int) = 7) (v0 : Int) (n0 : numR x1.data.toList 1 = v0)
    (S : ByteArray) (c : Int) (hF : ∀ W, Calls Tryz.prog 10 #[(⟨(op : Int), 0, v0, 0, 0⟩ : In).v] W fun e w' => e = .returned (.tuple #[.string S, .int .i64 c]) ∧ Below W.heap.size W w')
    (I : In) (d : Int) (hI : (c = 0 ∧ S = ⟨l.toArray⟩ ∧ I = ⟨(op : Int), 0, v0, 0, 0⟩ ∧ d = 0) ∨ (c = 1 ∧ I = nilI ∧ d = 2) ∨ (c = 0 ∧ S ≠ ⟨l.toArray⟩ ∧ I = nilI ∧ d = 2)) :
    Calls Tryz.prog 12 #[.string ⟨l.toArray⟩] W fun e w' => e = .returned (.tuple #[I.v, .int .i64 d]) ∧ Below W.heap.size W w' := by
  have WR := Lib.hid (fun w => words_ref l w hl)
  rw [hws] at WR
  have hlen := (fieldsA_len l []).1
  obtain ⟨M, hM⟩ : ∃ M, (wordsB l).length + 4 = M := ⟨_, rfl⟩
  have hM5 : 5 ≤ M := by rw [← hM]; unfold wordsB; simp; omega
  rw [hM] at WR
  have hsz : ∀ (j : Nat) (x : ByteArray), ws[j]? = some x → x.data.toList.length ≤ 1000000 := by
    intro j x hj
    have hm : x ∈ ws := List.mem_of_getElem? hj
    rw [← hws] at hm
    rcases List.mem_append.1 hm with hm | hm
    · obtain ⟨y, hy, rfl⟩ := List.mem_map.1 hm
      have := (fieldsA_len l []).2 y hy
      simp at this
      show y.length ≤ 1000000
      omega
    · simp at hm
      subst hm
      exact Nat.zero_le _
  have NM := Lib.hid (fun (k : Nat) (hk : k < 26) w => name_ref k hk w)
  have FO := Lib.hid (fun w => form_at (op : Int) _ w hf)
  have F := Lib.hid hF
  have HI := Lib.hid hI
  have N0 := Lib.hid (fun w => num_ref x1.data.toList 1 w (by omega) (hsz 1 x1 h1))
  rw [n0] at N0
  have b0 := numR_bound x1.data.toList 1
  rw [n0] at b0
  have HS0 := Lib.hid h0
  have HS1 := Lib.hid h1
  have HS2 := Lib.hid h2
  have HS3 := Lib.hid h3
  have HOP := Lib.hid hop
  obtain ⟨T, hT⟩ : ∃ T : ByteArray, ⟨l.toArray⟩ = T := ⟨_, rfl⟩
  rw [hT] at WR HI ⊢
  clear hI hF hws hM hlen hsz h0 h1 h2 h3 hop hf hT hl n0
  simp only [In.v] at F
  go_enter Tryz.func12, Tryz.ntmps12
  go_wp2_with fail
  refine (WR.out _).mono ?_
  rintro e w1 ⟨⟨g, cap, rfl, hg, hcell⟩, hb⟩
  have P0 : Hid (PSt W g w1.heap.size ws nilI (w1.alloc (.cells zeros 27))) := Lib.hid ⟨(((Below.refl _ W).alloc (Nat.le_refl _) _).trans (hb.mono (by simp))).alloc (by have := hb.size; simp at this; omega) _,
    fun j x hj => (World.cell?_alloc_lt _ _ ⟨g, j, none⟩ hg).trans (hcell j x hj), ((Below.heap_alloc w1 _ _ (by have := hb.size; simp at this; omega))).trans ((hb.block _ (by simp)).trans (World.alloc_heap_new W _)), World.alloc_heap_new w1 _, by have := hb.size; simp at this; omega, hg⟩
  obtain ⟨bi, hbi⟩ : ∃ bi, w1.heap.size = bi := ⟨_, rfl⟩
  rw [hbi] at P0
  clear hb hcell WR hg
  go_wp2_with fail
  go_loopw [6] (fun vi wr => ∃ k : Nat, 1 ≤ k ∧ k ≤ 26 ∧ vi = .int .i64 (k : Int) ∧ PSt W g bi ws ⟨opTo x0 k, 0, 0, 0, 0⟩ wr) (fun vi _ => 26 - (intOf vi).toNat)
  case atStart => exact ⟨1, by omega, by omega, rfl, by rw [opTo_one]; exact P0.out⟩
  case round =>
    obtain ⟨k, hk1, hk, rfl, hR⟩ := hrel
    have c0 := hR.ib.cell 0
    have f0 := hR.ib.frozen 0
    have y0 := hR.ws 0 _ HS0.out
    simp only [List.getElem?_toArray, List.getElem?_cons_zero] at c0
    by_cases hk26 : k < 26
    · have q1 : (k : Int) ≤ 25 := by omega
      have q2 : (0 : Int) < (M : Int) := by omega
      have q2n : 0 < M := by omega
      have NK := Lib.hid (fun w => NM.out k hk26 w)
      have ho : Hid (opTo x0 (k + 1) = if nm (k : Int) = x0 ∧ nm (k : Int) ≠ .empty then k else opTo x0 k) := Lib.hid rfl
      have hne : nm (k : Int) ≠ .empty := nm_ne k hk26 hk1
      obtain ⟨N, hN⟩ : ∃ N, nm (k : Int) = N := ⟨_, rfl⟩
      rw [hN] at NK ho hne
      clear hN
      by_cases hN1 : N = x0
      · subst hN1
        have ho' : Hid (opTo N (k + 1) = k) := Lib.hid (by rw [ho.out, if_pos ⟨rfl, hne⟩])
        clear ho hne
        have hR := Lib.hid hR
        go_wp2_with fail
        go_region_held3 (fun w => (w.cell? ⟨g, 0, none⟩ = some (.string N)) ∧ (w.frozen? ⟨bi, 0, none⟩ = false) ∧ Hid (PSt W g bi ws ⟨opTo N k, 0, 0, 0, 0⟩ w))
          (first | (exact ⟨y0, f0, Lib.hid (hR.out.later (Below.drew (Below.refl _ _)))⟩) | (have PK : PSt W g bi ws ⟨opTo N k, 0, 0, 0, 0⟩ w' := PSt.keep3 (by assumption) hbc; exact ⟨PK.ws 0 _ HS0.out, PK.ib.frozen 0, Lib.hid PK⟩) | go_keep)
          (first | (go_at_call 33; refine (NK.out _).mono ?_; rintro e w' ⟨rfl, hbc⟩))
        all_goals
          obtain ⟨f1, PK⟩ : w'.frozen? ⟨bi, 0, none⟩ = false ∧ Hid (PSt W g bi ws ⟨opTo N k, 0, 0, 0, 0⟩ w') := PSt.got (by assumption)
          have c1 := PK.out.ib.cell 0
          simp only [List.getElem?_toArray, List.getElem?_cons_zero] at c1
          have PK1 : Hid (PSt W g bi ws ⟨opTo N (k + 1), 0, 0, 0, 0⟩ (w'.setCell ⟨bi, 0, none⟩ (.int .i64 k))) := Lib.hid (by rw [ho'.out]; exact PK.out.set ⟨k, 0, 0, 0, 0⟩ 0 _ rfl)
          clear PK hR ho' c0 f0 y0
          go_wp2
          go_roundw
        all_goals first | exact ⟨k + 1, by omega, by omega, by go_num, PK1.out⟩ | (simp [intOf]; omega)
      · have ho' : Hid (opTo x0 (k + 1) = opTo x0 k) := Lib.hid (by rw [ho.out, if_neg (fun h => hN1 h.1)])
        have hN2 : ¬ N.toList = x0.toList := fun h => hN1 (toList_inj h)
        have hN3 : ¬ (N.toList == x0.toList) = true := fun h => hN2 (by simpa using h)
        clear ho hne hN1
        have hR := Lib.hid hR
        go_wp2_with fail
        go_region_held3 (fun w => (w.cell? ⟨g, 0, none⟩ = some (.string x0)) ∧ (w.frozen? ⟨bi, 0, none⟩ = false) ∧ Hid (PSt W g bi ws ⟨opTo x0 k, 0, 0, 0, 0⟩ w))
          (first | (exact ⟨y0, f0, Lib.hid (hR.out.later (Below.drew (Below.refl _ _)))⟩) | (have PK : PSt W g bi ws ⟨opTo x0 k, 0, 0, 0, 0⟩ w' := PSt.keep3 (by assumption) hbc; exact ⟨PK.ws 0 _ HS0.out, PK.ib.frozen 0, Lib.hid PK⟩) | go_keep)
          (first | (go_at_call 33; refine (NK.out _).mono ?_; rintro e w' ⟨rfl, hbc⟩))
        all_goals
          obtain ⟨f1, PK⟩ : w'.frozen? ⟨bi, 0, none⟩ = false ∧ Hid (PSt W g bi ws ⟨opTo x0 k, 0, 0, 0, 0⟩ w') := PSt.got (by assumption)
          have PK1 : Hid (PSt W g bi ws ⟨opTo x0 (k + 1), 0, 0, 0, 0⟩ w') := Lib.hid (by rw [ho'.out]; exact PK.out)
          clear PK hR ho' c0 f0 y0
          go_wp2
          go_roundw
        all_goals first | exact ⟨k + 1, by omega, by omega, by go_num, PK1.out⟩ | (simp [intOf]; omega)
    · obtain rfl : k = 26 := by omega
      clear c0 f0 y0
      rw [HOP.out] at hR
      have P1 := Lib.hid hR
      have c0 := hR.ib.cell 0
      simp only [List.getElem?_toArray, List.getElem?_cons_zero] at c0
      clear hR NM HOP P0
      go_wp2_with fail
      refine (FO.out _).mono ?_
      rintro e w2 ⟨rfl, ⟨n0, hw⟩⟩
      have P2 := Lib.hid (P1.out.later (show Below wr.heap.size wr w2 by rw [hw]; exact bdrew (Below.refl _ _) _))
      clear hw P1 c0 FO
      have y0 := P2.out.ws 1 _ HS1.out
      have q0 : (1 : Int) < (M : Int) := by omega
      go_wp2_with fail
      refine (N0.out _).mono ?_
      rintro e w3 ⟨rfl, hb⟩
      have P3 := Lib.hid (P2.out.later hb)
      have cc0 := P3.out.ib.cell 2
      have ff0 := P3.out.ib.frozen 2
      simp only [List.getElem?_toArray, List.getElem?_cons_succ, List.getElem?_cons_zero] at cc0
      have P4 := Lib.hid (P3.out.set ⟨(op : Int), 0, v0, 0, 0⟩ 2 (.int .i64 v0) rfl)
      clear hb P2 P3 y0 N0
      have d0 := P4.out.ib.cell 0
      have d1 := P4.out.ib.cell 1
      have d2 := P4.out.ib.cell 2
      have d3 := P4.out.ib.cell 3
      have d4 := P4.out.ib.cell 4
      simp only [List.getElem?_toArray, List.getElem?_cons_succ, List.getElem?_cons_zero] at d0 d1 d2 d3 d4
      go_wp2_with fail
      refine (F.out _).mono ?_
      rintro e w9 ⟨rfl, hb⟩
      have P5 := Lib.hid (P4.out.later hb)
      clear hb P4 d0 d1 d2 d3 d4 F
      have hfr := P5.out.res.frozen
      have r0 := P5.out.res.cell 0
      have r1 := P5.out.res.cell 1
      have r2 := P5.out.res.cell 2
      have r3 := P5.out.res.cell 3
      have r4 := P5.out.res.cell 4
      have d0 := P5.out.ib.cell 0
      have d1 := P5.out.ib.cell 1
      have d2 := P5.out.ib.cell 2
      have d3 := P5.out.ib.cell 3
      have d4 := P5.out.ib.cell 4
      simp only [List.getElem?_toArray, List.getElem?_cons_succ, List.getElem?_cons_zero, nilI] at r0 r1 r2 r3 r4 d0 d1 d2 d3 d4
      rcases HI.out with ⟨rfl, rfl, rfl, rfl⟩ | ⟨rfl, rfl, rfl⟩ | ⟨rfl, hne, rfl, rfl⟩
      · clear HI
        go_wp2
        obtain ⟨x1, x2⟩ := ibox_all ⟨(op : Int), 0, v0, 0, 0⟩ P5.out.res rfl
        exact res_endR x1 rfl rfl ⟨rfl, P5.out.below.trans x2⟩
      · clear HI
        go_wp2
        obtain ⟨x1, x2⟩ := ibox_all nilI P5.out.res rfl
        exact res_endR x1 rfl rfl ⟨rfl, P5.out.below.trans x2⟩
      · clear HI
        have hne' := toList_beq hne
        clear hne
        go_wp2
        obtain ⟨x1, x2⟩ := ibox_all nilI P5.out.res rfl
        exact res_endR x1 rfl rfl ⟨rfl, P5.out.below.trans x2⟩
/-! ### The reference's Parse reads a formatted instruction back -/
theorem fieldsA_pre : ∀ (x cur : List UInt8), (32 : UInt8) ∉ x → ∀ y, fieldsA cur (x ++ 32 :: y) = (cur ++ x) :: fieldsA [] y
  | [], cur, _, y => by simp [fieldsA]
  | c :: x, cur, h, y => by
    have hc : c ≠ 32 := fun e => h (e ▸ List.mem_cons_self)
    rw [List.cons_append, fieldsA, if_neg hc, fieldsA_pre x (cur ++ [c]) (fun hm => h (List.mem_cons_of_mem _ hm)) y]
    simp
theorem fieldsA_all : ∀ (x cur : List UInt8), (32 : UInt8) ∉ x → fieldsA cur x = [cur ++ x]
  | [], cur, _ => by simp [fieldsA]
  | c :: x, cur, h => by
    have hc : c ≠ 32 := fun e => h (e ▸ List.mem_cons_self)
    rw [fieldsA, if_neg hc, fieldsA_all x (cur ++ [c]) (fun hm => h (List.mem_cons_of_mem _ hm))]
    simp
theorem fieldsA_join : ∀ (r : List (List UInt8)) (x : List UInt8), (∀ z ∈ x :: r, (32 : UInt8) ∉ z) → fieldsA [] (Lib.join (x :: r) [32]) = x :: r
  | [], x, h => by
    have e : Lib.join [x] [32] = x := by simp [Lib.join, List.intercalate]
    rw [e, fieldsA_all x [] (h x List.mem_cons_self)]
    rfl
  | y :: r, x, h => by
    rw [join_cons, List.singleton_append, fieldsA_pre x [] (h x List.mem_cons_self), fieldsA_join r y (fun z hz => h z (List.mem_cons_of_mem _ hz))]
    rfl
theorem parts_ne (i : In) : parts i ≠ [] := by
  unfold parts
  repeat' split
  all_goals simp
theorem words_txt {i : In} (h : vld i = true) : wordsB (txt i).data.toList = parts i := by
  have hs := parts_sp h
  unfold wordsB txt
  show (fieldsA [] (Lib.join ((parts i).map (fun x => x.data.toList)) [32])).map mkB = parts i
  cases hp : parts i with
  | nil => exact absurd hp (parts_ne i)
  | cons x r =>
    rw [hp] at hs
    rw [List.map_cons, fieldsA_join _ _ (fun z hz => by
      rw [← List.map_cons (f := fun x : ByteArray => x.data.toList)] at hz
      obtain ⟨y, hy, rfl⟩ := List.mem_map.1 hz
      exact hs y hy), ← List.map_cons (f := fun x : ByteArray => x.data.toList), List.map_map]
    conv => rhs; rw [← List.map_id (x :: r)]
    rfl
theorem numG_app : ∀ (a b : List UInt8) (n : Nat), numG (a ++ b) n = numG b (numG a n)
  | [], _, _ => rfl
  | c :: a, b, n => by rw [List.cons_append, numG, numG, numG_app a b]
theorem numG_dec : ∀ n : Nat, n ≤ 1000000 → numG (Lib.decDigits n) 0 = n := by
  intro n
  induction n using Nat.strongRecOn with
  | _ n ih =>
    intro hn
    by_cases h : n < 10
    · rw [Lib.decDigits_one h, numG, numG]
      have e : (UInt8.ofNat (48 + n)).toNat = 48 + n := by simp; omega
      rw [e, if_pos (by omega)]
      omega
    · rw [Lib.decDigits, dif_neg h, numG_app, ih (n / 10) (by omega) (by omega), numG, numG]
      have e : (UInt8.ofNat (48 + n % 10)).toNat = 48 + n % 10 := by simp; omega
      rw [e, if_pos (by omega)]
      omega
theorem numR_tag (c : UInt8) (n : Nat) (h : n ≤ 1000000) : numR (tag c n).data.toList 1 = (n : Int) := by
  unfold numR
  rw [if_neg (by simp)]
  show ((numG (Lib.decDigits n) 0 : Nat) : Int) = n
  rw [numG_dec n h]
theorem numR_itoa (n : Int) (h1 : -1000000 ≤ n) (h2 : n ≤ 1000000) : numR (mkB (Lib.itoa n)).data.toList 0 = n := by
  show numR (Lib.itoa n) 0 = n
  unfold numR
  by_cases hn : n < 0
  · obtain ⟨k, hk⟩ : ∃ k : Nat, -n = (k : Int) := ⟨(-n).toNat, by omega⟩
    obtain rfl : n = -(k : Int) := by omega
    rw [Lib.itoa_neg k (by omega), if_pos ⟨rfl, rfl⟩, numG]
    rw [if_neg (by decide), numG_dec k (by omega)]
  · obtain ⟨k, rfl⟩ := Int.eq_ofNat_of_zero_le (show 0 ≤ n by omega)
    rw [Lib.itoa_nonneg, if_neg (fun h => ?_)]
    · rw [List.drop_zero, numG_dec k (by omega)]
    · obtain ⟨c, r, hc, h3, _⟩ := dec_cons k
      rw [hc] at h
      have := h.2
      simp at this
      subst this
      revert h3
      decide
theorem rdI_txt {i : In} (h : vld i = true) (x0 x1 x2 x3 : ByteArray)
    (h0 : (parts i ++ [.empty, .empty, .empty, .empty])[0]? = some x0) (h1 : (parts i ++ [.empty, .empty, .empty, .empty])[1]? = some x1)
    (h2 : (parts i ++ [.empty, .empty, .empty, .empty])[2]? = some x2) (h3 : (parts i ++ [.empty, .empty, .empty, .empty])[3]? = some x3) : rdI x0 x1 x2 x3 = i := by
  have hb := vld_bounds h
  have hcs := fun hh => vld_csr h hh
  have hsm : -131072 ≤ i.imm ∧ i.imm < 131072 := by
    obtain ⟨_, h1, _⟩ := vld_parts h
    have := fits_iff.1 (num_fits h1)
    simp at this
    omega
  have hc := numR_itoa i.imm (by omega) (by omega)
  obtain ⟨op, rd, ra, rb, imm⟩ := i
  dsimp only at *
  obtain ⟨k, rfl⟩ := Int.eq_ofNat_of_zero_le (show 0 ≤ op by omega)
  obtain ⟨d, rfl⟩ := Int.eq_ofNat_of_zero_le (show 0 ≤ rd by omega)
  obtain ⟨a, rfl⟩ := Int.eq_ofNat_of_zero_le (show 0 ≤ ra by omega)
  obtain ⟨b, rfl⟩ := Int.eq_ofNat_of_zero_le (show 0 ≤ rb by omega)
  have hh : (parts ⟨k, d, a, b, imm⟩ ++ [.empty, .empty, .empty, .empty])[0]? = some (nm k) := by
    unfold parts
    repeat' split
    all_goals rfl
  rw [hh] at h0
  cases h0
  have ho := opTo_nm k (by omega) (by omega)
  have r1 := numR_tag 114 d (by omega)
  have r2 := numR_tag 114 a (by omega)
  have r3 := numR_tag 114 b (by omega)
  unfold mkB at hc
  unfold rdI
  simp only [ho]
  rcases fmt_cases (k : Int) with hf | hf | hf | hf | hf | hf | hf | hf
  · exact absurd hf (vld_parts h).1
  · rw [vld_1 hf] at h
    simp [rg] at h
    simp [parts, hf] at h1 h2 h3
    subst h1; subst h2; subst h3
    simp [hf, r1, r2, r3, h]
  · rw [vld_2 hf] at h
    simp [rg] at h
    simp [parts, hf] at h1 h2 h3
    subst h1; subst h2; subst h3
    simp [hf, r1, r2, hc, h]
  · rw [vld_3 hf] at h
    simp [rg] at h
    simp [parts, hf] at h1 h2 h3
    subst h1; subst h2; subst h3
    simp [hf, r1, hc, h]
  · rw [vld_4 hf] at h
    simp [rg] at h
    simp [parts, hf] at h1 h2 h3
    subst h1; subst h2; subst h3
    simp [hf, h]
  · obtain ⟨m, rfl⟩ := Int.eq_ofNat_of_zero_le (hcs (.inl hf))
    rw [vld_5 hf] at h
    simp [rg] at h
    have c2 := numR_tag 99 m (by omega)
    simp [parts, hf] at h1 h2 h3
    subst h1; subst h2; subst h3
    simp [hf, r1, c2, h]
  · obtain ⟨m, rfl⟩ := Int.eq_ofNat_of_zero_le (hcs (.inr hf))
    rw [vld_6 hf] at h
    simp [rg] at h
    have c2 := numR_tag 99 m (by omega)
    simp [parts, hf] at h1 h2 h3
    subst h1; subst h2; subst h3
    simp [hf, r2, c2, h]
  · rw [vld_7 hf] at h
    simp [rg] at h
    simp [parts, hf] at h1 h2 h3
    subst h1; subst h2; subst h3
    simp [hf, r2, h]
theorem rdI_small (x0 x1 x2 x3 : ByteArray) : small (rdI x0 x1 x2 x3).imm := by
  have b := fun l f => numR_bound l f
  unfold rdI small
  dsimp only
  repeat' split
  all_goals first | (constructor <;> first | omega | (have := b x3.data.toList 0; have := b x2.data.toList 0; have := b x2.data.toList 1; have := b x1.data.toList 1; dsimp only; omega)) | trivial
/-- The reference's Parse answers as Parse does. -/
theorem rparse_ref (l : List UInt8) (W : World) (hl : l.length ≤ 1000000) :
    Calls Tryz.prog 12 #[.string ⟨l.toArray⟩] W fun e w' => e = .returned (.tuple #[(parseI ⟨l.toArray⟩).v, .int .i64 (parseE ⟨l.toArray⟩)]) ∧ Below W.heap.size W w' := by
  obtain ⟨ws, hws⟩ : ∃ ws, wordsB l ++ [.empty, .empty, .empty, .empty] = ws := ⟨_, rfl⟩
  have hlen : 4 ≤ ws.length := by rw [← hws]; simp
  obtain ⟨x0, h0⟩ : ∃ x, ws[0]? = some x := ⟨_, List.getElem?_eq_getElem (by omega)⟩
  obtain ⟨x1, h1⟩ : ∃ x, ws[1]? = some x := ⟨_, List.getElem?_eq_getElem (by omega)⟩
  obtain ⟨x2, h2⟩ : ∃ x, ws[2]? = some x := ⟨_, List.getElem?_eq_getElem (by omega)⟩
  obtain ⟨x3, h3⟩ : ∃ x, ws[3]? = some x := ⟨_, List.getElem?_eq_getElem (by omega)⟩
  have hback : ∀ j, vld j = true → txt j = ⟨l.toArray⟩ → rdI x0 x1 x2 x3 = j := by
    intro j hj ht
    have e : wordsB l = parts j := by
      have := words_txt hj
      rw [ht] at this
      exact this
    rw [e] at hws
    rw [← hws] at h0 h1 h2 h3
    exact rdI_txt hj x0 x1 x2 x3 h0 h1 h2 h3
  have hF := fun W => text_ref (rdI x0 x1 x2 x3) W (rdI_small _ _ _ _)
  have hI : ∀ i, rdI x0 x1 x2 x3 = i → (fmtE i = 0 ∧ fmtS i = ⟨l.toArray⟩ ∧ parseI ⟨l.toArray⟩ = i ∧ parseE ⟨l.toArray⟩ = 0) ∨ (fmtE i = 1 ∧ parseI ⟨l.toArray⟩ = nilI ∧ parseE ⟨l.toArray⟩ = 2) ∨ (fmtE i = 0 ∧ fmtS i ≠ ⟨l.toArray⟩ ∧ parseI ⟨l.toArray⟩ = nilI ∧ parseE ⟨l.toArray⟩ = 2) := by
    intro i hi
    have hok : parseOk ⟨l.toArray⟩ → vld i = true ∧ txt i = ⟨l.toArray⟩ := fun h => by
      have := hback _ h.1 h.2
      rw [hi] at this
      rw [this]
      exact h
    unfold parseI parseE fmtE fmtS
    by_cases hv : vld i = true
    · simp only [if_pos hv]
      by_cases ht : txt i = ⟨l.toArray⟩
      · have hr : readP ⟨l.toArray⟩ = i := by rw [← ht]; exact read_txt hv
        have hp : parseOk ⟨l.toArray⟩ := by unfold parseOk; rw [hr]; exact ⟨hv, ht⟩
        simp only [if_pos hp]
        exact .inl ⟨trivial, ht, hr, trivial⟩
      · have hp : ¬ parseOk ⟨l.toArray⟩ := fun h => ht (hok h).2
        simp only [if_neg hp]
        exact .inr (.inr ⟨trivial, ht, trivial, trivial⟩)
    · have hp : ¬ parseOk ⟨l.toArray⟩ := fun h => hv (hok h).1
      simp only [if_neg hv, if_neg hp]
      exact .inr (.inl ⟨trivial, trivial, trivial⟩)
  obtain ⟨op, hop⟩ : ∃ op, opTo x0 26 = op := ⟨_, rfl⟩
  have key : ∀ i, rdI x0 x1 x2 x3 = i → (∀ W, Calls Tryz.prog 10 #[i.v] W fun e w' => e = .returned (.tuple #[.string (fmtS i), .int .i64 (fmtE i)]) ∧ Below W.heap.size W w') := fun i hi => by rw [← hi]; exact hF
  rcases fmt_cases (op : Int) with hf | hf | hf | hf | hf | hf | hf | hf
  all_goals
    have hi := fun i (h : rdI x0 x1 x2 x3 = i) => And.intro (key i h) (hI i h)
    unfold rdI at hi
    simp only [hop, hf] at hi
  · exact rp_0 l W hl x0 x1 x2 x3 ws hws h0 h1 h2 h3 op hop hf _ _ (hi _ rfl).1 _ _ (hi _ rfl).2
  · exact rp_1 l W hl x0 x1 x2 x3 ws hws h0 h1 h2 h3 op hop hf _ rfl _ rfl _ rfl _ _ (hi _ rfl).1 _ _ (hi _ rfl).2
  · exact rp_2 l W hl x0 x1 x2 x3 ws hws h0 h1 h2 h3 op hop hf _ rfl _ rfl _ rfl _ _ (hi _ rfl).1 _ _ (hi _ rfl).2
  · exact rp_3 l W hl x0 x1 x2 x3 ws hws h0 h1 h2 h3 op hop hf _ rfl _ rfl _ _ (hi _ rfl).1 _ _ (hi _ rfl).2
  · exact rp_4 l W hl x0 x1 x2 x3 ws hws h0 h1 h2 h3 op hop hf _ _ (hi _ rfl).1 _ _ (hi _ rfl).2
  · exact rp_5 l W hl x0 x1 x2 x3 ws hws h0 h1 h2 h3 op hop hf _ rfl _ rfl _ _ (hi _ rfl).1 _ _ (hi _ rfl).2
  · exact rp_6 l W hl x0 x1 x2 x3 ws hws h0 h1 h2 h3 op hop hf _ rfl _ rfl _ _ (hi _ rfl).1 _ _ (hi _ rfl).2
  · exact rp_7 l W hl x0 x1 x2 x3 ws hws h0 h1 h2 h3 op hop hf _ rfl _ _ (hi _ rfl).1 _ _ (hi _ rfl).2
end Go.Proofs.YtihnglgknncgpaaGreatDoor.Asm
