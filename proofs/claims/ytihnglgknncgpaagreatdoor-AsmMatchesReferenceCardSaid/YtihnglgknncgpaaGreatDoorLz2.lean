/- The law AsmMatchesReference, walked. -/
import Derived.Test.YtihnglgknncgpaaGreatDoorRfE
namespace Go.Proofs.YtihnglgknncgpaaGreatDoor.Asm
open Go Go.RowKit Go.Proofs.YtihnglgknncgpaaGreatDoor.PAsmEveryWordHasOneLine Go.Proofs.YtihnglgknncgpaaGreatDoorW.PrintWords Go.Proofs.YtihnglgknncgpaaGreatDoorW.PrintLast Go.Proofs.YtihnglgknncgpaaGreatDoorW.PrintMore Go.Proofs.YtihnglgknncgpaaGreatDoor.Bm Go.Proofs.YtihnglgknncgpaaGreatDoor.Isa
set_option linter.unusedVariables false
set_option linter.unusedSimpArgs false
theorem bad_half {xs : List (List UInt8)} {y : List UInt8} {k m : Nat} (h : asmBad xs y k) (h' : asmBad xs y m) : m ≤ k := by
  obtain ⟨ws, hl, hw, hb⟩ := h
  obtain ⟨us, hl', hw', _⟩ := h'
  refine Nat.le_of_not_lt fun hlt => ?_
  have hm : m ≤ xs.length := by
    have := congrArg List.length hw'
    rw [List.length_map, List.length_map, List.length_take, hl'] at this
    omega
  rcases hb with ⟨x, hx, ho⟩ | ⟨he, _⟩
  · have h1 : ((xs.take m).map oneL)[k]? = some none := by rw [List.getElem?_map, List.getElem?_take_of_lt hlt, hx]; simp [ho]
    rw [hw', List.getElem?_map] at h1
    cases hu : us[k]? with
    | none => rw [hu] at h1; cases h1
    | some u => rw [hu] at h1; cases h1
  · omega
theorem bad_one {xs : List (List UInt8)} {y : List UInt8} {k m : Nat} (h : asmBad xs y k) (h' : asmBad xs y m) : k = m := Nat.le_antisymm (bad_half h' h) (bad_half h h')
theorem bad_no {xs : List (List UInt8)} {y : List UInt8} {k : Nat} {ws : List Nat} (h : asmBad xs y k) (hy : y = []) (hw : xs.map oneL = ws.map some) : False := by
  obtain ⟨us, hl, hu, (⟨x, hx, ho⟩ | ⟨_, hne⟩)⟩ := h
  · have h1 : (xs.map oneL)[k]? = some none := by rw [List.getElem?_map, hx]; simp [ho]
    rw [hw, List.getElem?_map] at h1
    cases hu : ws[k]? with
    | none => rw [hu] at h1; cases h1
    | some u => rw [hu] at h1; cases h1
  · exact hne hy
theorem some_inj : ∀ {a b : List Nat}, a.map some = b.map some → a = b
  | [], [], _ => rfl
  | [], _ :: _, h => by cases h
  | _ :: _, [], h => by cases h
  | x :: a, y :: b, h => by
    rw [List.map_cons, List.map_cons] at h
    injection h with h1 h2
    injection h1 with h1
    rw [h1, some_inj h2]
theorem ws_nil (W : World) (p : Option Addr) : Ws W p [] := fun k x hk => by simp at hk
set_option maxRecDepth 100000 in
set_option maxHeartbeats 4000000 in
/-- AsmMatchesReference where the list or the text is too long: awake alone. -/
theorem law2_long (i : In) (n : Nat) (s : ByteArray) (p : Option Addr) (c : Nat) (W : World) (hE : Env W) (h : 200 < n ∨ 2000 < s.size) :
    Calls Tryz.prog 4 #[i.v, .slice p n c, .string s] W fun e w' => e = .returned (.bool true) ∧ Below W.heap.size W w' := by
  have A := Lib.hid (fun W hE => awake_go W hE)
  have E := Lib.hid hE
  clear hE
  have h' : (200 : Int) < (n : Int) ∨ ((n : Int) ≤ 200 ∧ (2000 : Int) < (s.size : Int)) := by omega
  clear h
  obtain ⟨i0, i1, i2, i3, i4⟩ := i
  have R0 := Lib.hid ((Below.refl W.heap.size W).alloc (Nat.le_refl _) (.cells #[.int .i64 i0, .int .i64 i1, .int .i64 i2, .int .i64 i3, .int .i32 i4] 27))
  simp only [In.v]
  rcases h' with h | ⟨h1, h⟩
  all_goals
    go_enter Tryz.func4, Tryz.ntmps4
    go_wp2_with fail
    refine (A.out _ (E.out.later R0.out)).mono ?_
    rintro e w1 ⟨rfl, hb⟩
    have B1 := Lib.hid (R0.out.trans (hb.mono R0.out.size))
    clear hb
    go_wp2_with fail
    refine (A.out _ (E.out.later B1.out)).mono ?_
    rintro e w2 ⟨rfl, hb⟩
    have B2 := Lib.hid (B1.out.trans (hb.mono B1.out.size))
    clear hb
    go_wp2
    go_ret
    exact ⟨rfl, B2.out⟩
/-- What stands in a walk of the law: the boxes of the three instructions. -/
structure L2 (W0 : World) (i : In) (bs : List (Nat × In)) (W : World) : Prop where
  below : Below W0.heap.size W0 W
  ib : IBox W W0.heap.size i
  bs : ∀ x ∈ bs, IBox W x.1 x.2
theorem L2.later {W0 W W' : World} {i : In} {bs : List (Nat × In)} (h : L2 W0 i bs W) (hb : Below W.heap.size W W') : L2 W0 i bs W' :=
  ⟨h.below.trans (hb.mono h.below.size), h.ib.kept (grown_of_below hb) (by simp), fun x hx => (h.bs x hx).kept (grown_of_below hb) (by simp)⟩
theorem L2.box {W0 W : World} {i : In} {bs : List (Nat × In)} (h : L2 W0 i bs W) (K : In) : L2 W0 i ((W.heap.size, K) :: bs) (W.alloc (.cells #[.int .i64 K.op, .int .i64 K.rd, .int .i64 K.ra, .int .i64 K.rb, .int .i32 K.imm] 27)) := by
  have h1 := h.later ((Below.refl _ W).alloc (Nat.le_refl _) (.cells #[.int .i64 K.op, .int .i64 K.rd, .int .i64 K.ra, .int .i64 K.rb, .int .i32 K.imm] 27))
  refine ⟨h1.below, h1.ib, fun x hx => ?_⟩
  rcases List.mem_cons.1 hx with rfl | hx
  · exact World.alloc_heap_new W _
  · exact h1.bs x hx
theorem IBox.five {W : World} {b : Nat} {i : In} (h : IBox W b i) : W.cell? ⟨b, 0, none⟩ = some (.int .i64 i.op) ∧ W.cell? ⟨b, 1, none⟩ = some (.int .i64 i.rd) ∧ W.cell? ⟨b, 2, none⟩ = some (.int .i64 i.ra) ∧ W.cell? ⟨b, 3, none⟩ = some (.int .i64 i.rb) ∧ W.cell? ⟨b, 4, none⟩ = some (.int .i32 i.imm) :=
  ⟨h.cell 0, h.cell 1, h.cell 2, h.cell 3, h.cell 4⟩
set_option maxRecDepth 100000 in
set_option maxHeartbeats 8000000 in
theorem law2_walk (i K : In) (S D s : ByteArray) (c g : Int) (n : Nat) (p : Option Addr) (cap : Nat) (W : World) (hE : Env W) (hn : n ≤ 200) (hs : s.size ≤ 2000)
    (Hp : World → Prop) (hp : Hp W) (hpl : ∀ W W', Hp W → Below W.heap.size W W' → Hp W')
    (hF : ∀ W, Env W → Calls Tryz.prog 8 #[i.v] W fun e w' => e = .returned (.tuple #[.string S, .int .i64 c]) ∧ Below W.heap.size W w')
    (hT : ∀ W, Calls Tryz.prog 10 #[i.v] W fun e w' => e = .returned (.tuple #[.string S, .int .i64 c]) ∧ Below W.heap.size W w')
    (hP : ∀ W, Env W → Calls Tryz.prog 11 #[.string s] W fun e w' => e = .returned (.tuple #[K.v, .int .i64 g]) ∧ Below W.heap.size W w')
    (hR : ∀ W, Calls Tryz.prog 12 #[.string s] W fun e w' => e = .returned (.tuple #[K.v, .int .i64 g]) ∧ Below W.heap.size W w')
    (hD : ∀ W, Env W → Hp W → Calls Tryz.prog 6 #[.slice p n cap] W fun e w' => e = .returned (.string D) ∧ Below W.heap.size W w')
    (hQ : ∀ W, Hp W → Calls Tryz.prog 14 #[.slice p n cap] W fun e w' => e = .returned (.string D) ∧ Below W.heap.size W w')
    (hA : ∀ W, Env W → Calls Tryz.prog 9 #[.string s] W fun e w' => Below W.heap.size W w' ∧ ∃ (xo : Option Addr) (xn xc : Nat) (m a : Int), e = .returned (.tuple #[.slice xo xn xc, .int .i64 m, .int .i64 a]) ∧
      ∀ W, Below w'.heap.size w' W → Calls Tryz.prog 13 #[.string s] W fun e w2 => Below W.heap.size W w2 ∧ ∃ (yo : Option Addr) (yc : Nat), e = .returned (.tuple #[.slice yo xn yc, .int .i64 m, .int .i64 a]) ∧
        ∀ W, Below w2.heap.size w2 W → Calls Tryz.prog 15 #[.slice xo xn xc, .slice yo xn yc] W fun e w3 => e = .returned (.bool true) ∧ Below W.heap.size W w3) :
    Calls Tryz.prog 4 #[i.v, .slice p n cap, .string s] W fun e w' => e = .returned (.bool true) ∧ Below W.heap.size W w' := by
  have A := Lib.hid (fun W hE => awake_go W hE)
  have E := Lib.hid hE
  have F := Lib.hid hF
  have T := Lib.hid hT
  have P := Lib.hid hP
  have R := Lib.hid hR
  have D1 := Lib.hid hD
  have Q := Lib.hid hQ
  have AS := Lib.hid hA
  have HP := Lib.hid hp
  have HL := Lib.hid hpl
  have hKK := eqI_at K K true (decide_eq_true rfl)
  clear hE hF hT hP hR hD hQ hA hp hpl
  have R0 : Hid (L2 W i [] (W.alloc (.cells #[.int .i64 i.op, .int .i64 i.rd, .int .i64 i.ra, .int .i64 i.rb, .int .i32 i.imm] 27))) := Lib.hid ⟨(Below.refl _ W).alloc (Nat.le_refl _) _, World.alloc_heap_new W _, fun x hx => by cases hx⟩
  have i1 : (n : Int) ≤ 200 := by omega
  have i2 : (s.size : Int) ≤ 2000 := by omega
  obtain ⟨i0, i1', i2', i3', i4⟩ := i
  obtain ⟨k0, k1, k2, k3, k4⟩ := K
  simp only [In.v] at F T P R hKK ⊢
  go_enter Tryz.func4, Tryz.ntmps4
  go_wp2_with fail
  refine (A.out _ (E.out.later R0.out.below)).mono ?_
  rintro e w1 ⟨rfl, hb⟩
  have R1 := Lib.hid (R0.out.later hb)
  obtain ⟨c0, c1, c2, c3, c4⟩ := R1.out.ib.five
  clear hb A R0
  go_wp2_with fail
  refine (F.out _ (E.out.later R1.out.below)).mono ?_
  rintro e w2 ⟨rfl, hb⟩
  have R2 := Lib.hid (R1.out.later hb)
  clear hb R1 F c0 c1 c2 c3 c4
  obtain ⟨c0, c1, c2, c3, c4⟩ := R2.out.ib.five
  go_wp2_with fail
  refine (T.out _).mono ?_
  rintro e w3 ⟨rfl, hb⟩
  have R3 := Lib.hid (R2.out.later hb)
  clear hb R2 T c0 c1 c2 c3 c4
  go_wp2_with fail
  refine (P.out _ (E.out.later R3.out.below)).mono ?_
  rintro e w4 ⟨rfl, hb⟩
  have R4 := Lib.hid ((R3.out.later hb).box ⟨k0, k1, k2, k3, k4⟩)
  clear hb R3 P
  go_wp2_with fail
  refine (R.out _).mono ?_
  rintro e w5 ⟨rfl, hb⟩
  have R5 := Lib.hid ((R4.out.later hb).box ⟨k0, k1, k2, k3, k4⟩)
  clear hb R4 R
  go_wp2_with fail
  refine (AS.out _ (E.out.later R5.out.below)).mono ?_
  rintro e w6 ⟨hb, xo, xn, xc, m, a, rfl, G⟩
  have R6 := Lib.hid (R5.out.later hb)
  have G := Lib.hid G
  clear hb R5 AS
  go_wp2_with fail
  refine (G.out _ (Below.refl _ _)).mono ?_
  rintro e w7 ⟨hb, yo, yc, rfl, WO⟩
  have R7 := Lib.hid (R6.out.later hb)
  have WO := Lib.hid WO
  clear hb R6 G
  obtain ⟨c0, c1, c2, c3, c4⟩ := (R7.out.bs _ (List.mem_cons_self)).five
  obtain ⟨d0, d1, d2, d3, d4⟩ := (R7.out.bs _ (List.mem_cons_of_mem _ List.mem_cons_self)).five
  go_wp2_with fail
  refine (D1.out _ (E.out.later R7.out.below) (HL.out _ _ HP.out R7.out.below)).mono ?_
  rintro e w8 ⟨rfl, hb⟩
  have B8 := Lib.hid hb
  have R8 := Lib.hid (R7.out.later hb)
  clear hb D1 c0 c1 c2 c3 c4 d0 d1 d2 d3 d4
  go_wp2_with fail
  refine (Q.out _ (HL.out _ _ HP.out R8.out.below)).mono ?_
  rintro e w9 ⟨rfl, hb⟩
  have B9 := Lib.hid (B8.out.trans (hb.mono B8.out.size))
  have R9 := Lib.hid (R8.out.later hb)
  clear hb Q R8
  go_wp2_with fail
  refine (WO.out _ B9.out).mono ?_
  rintro e w10 ⟨rfl, hb⟩
  have R10 := Lib.hid (R9.out.later hb)
  clear hb WO
  go_wp2
  go_ret
  exact ⟨rfl, R10.out.below⟩
/-- AsmMatchesReference. -/
theorem law2 (i : In) (l : List Nat) (p : Option Addr) (cap : Nat) (s : ByteArray) (W : World) (hE : Env W) (hi : small i.imm) (hp : Ws W p l) :
    Calls Tryz.prog 4 #[i.v, .slice p l.length cap, .string s] W fun e w' => e = .returned (.bool true) ∧ Below W.heap.size W w' := by
  by_cases h : 200 < l.length ∨ 2000 < s.size
  · exact law2_long i _ s p cap W hE h
  · obtain ⟨xs, y, hg, h1, h2⟩ := unglue s.data.toList
    have hl : (glue xs y).length = s.size := by rw [← hg, Lib.size_eq]
    have e : s = ⟨(glue xs y).toArray⟩ := by rw [← hg]
    refine law2_walk i (parseI s) (fmtS i) ⟨(disL l).toArray⟩ s (fmtE i) (parseE s) l.length p cap W hE (by omega) (by omega) (fun W => Ws W p l) hp (fun W W' h hb => h.later hb)
      (fun W hE => fmt_go i W hE) (fun W => text_ref i W hi) (fun W hE => parse_go s W hE (by omega)) (fun W => rparse_ref s.data.toList W (by rw [← Lib.size_eq]; omega))
      (fun W hE hp => dis_go l (by omega) p cap W hE hp) (fun W hp => put_ref l (by omega) p cap W hp) ?_
    intro W hE
    rw [e]
    have G := fun W => get_ref xs y h1 h2 (by omega) W
    refine (asm_go xs y h1 h2 (by omega) W hE).mono ?_
    rintro e w' ⟨hb, (⟨ws, q, c, hy, hw, rfl, hq⟩ | ⟨k, hk, rfl⟩)⟩
    · refine ⟨hb, q, ws.length, c, 0, 0, rfl, fun W hbW => (G W).mono ?_⟩
      rintro e w2 ⟨hb2, (⟨us, q2, c2, _, hu, rfl, hq2⟩ | ⟨k, hk, rfl⟩)⟩
      · obtain rfl : ws = us := some_inj (hw.symm.trans hu)
        refine ⟨hb2, q2, c2, rfl, fun W3 hb3 => ?_⟩
        have := words_go ws ws q q2 c c2 W3 ((hq.later hbW).later (hb2.trans (hb3.mono hb2.size))) (hq2.later hb3) ?_ ?_
        · rw [decide_eq_true rfl] at this
          exact this
        all_goals
          have := congrArg List.length hw
          rw [List.length_map, List.length_map] at this
          have := len_glue xs y
          omega
      · exact (bad_no hk hy hw).elim
    · refine ⟨hb, none, 0, 0, 2, k, rfl, fun W hbW => (G W).mono ?_⟩
      rintro e w2 ⟨hb2, (⟨us, q2, c2, hy, hu, rfl, hq2⟩ | ⟨m, hm, rfl⟩)⟩
      · exact (bad_no hk hy hu).elim
      · obtain rfl := bad_one hk hm
        refine ⟨hb2, none, 0, rfl, fun W3 hb3 => ?_⟩
        have := words_go [] [] none none 0 0 W3 (ws_nil _ _) (ws_nil _ _) (by simp) (by simp)
        rw [decide_eq_true rfl] at this
        exact this
end Go.Proofs.YtihnglgknncgpaaGreatDoor.Asm
