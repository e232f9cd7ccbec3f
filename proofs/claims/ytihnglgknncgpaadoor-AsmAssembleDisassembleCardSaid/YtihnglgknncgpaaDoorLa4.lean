/- The law AsmAssembleDisassemble, walked. -/
import Derived.Test.YtihnglgknncgpaaDoorAw
namespace Go.Proofs.YtihnglgknncgpaaDoor.Asm
open Go Go.RowKit Go.Proofs.YtihnglgknncgpaaDoor.PAsmParseFormat Go.Proofs.YtihnglgknncgpaaDoorW.PrintWords Go.Proofs.YtihnglgknncgpaaDoorW.PrintLast Go.Proofs.YtihnglgknncgpaaDoorW.PrintMore Go.Proofs.YtihnglgknncgpaaDoor.Bm Go.Proofs.YtihnglgknncgpaaDoor.Isa
set_option linter.unusedVariables false
set_option linter.unusedSimpArgs false
set_option maxRecDepth 100000 in
set_option maxHeartbeats 4000000 in
/-- AsmAssembleDisassemble where a list or the text is too long: awake alone. -/
theorem law4_long (n k : Nat) (s : ByteArray) (p q : Option Addr) (c d : Nat) (W : World) (hE : Env W) (h : 200 < n ∨ 200 < k ∨ 2000 < s.size) :
    Calls Tryd.prog 4 #[.slice p n c, .slice q k d, .string s] W fun e w' => e = .returned (.bool true) ∧ Below W.heap.size W w' := by
  have A := Lib.hid (fun W hE => awake_go W hE)
  have E := Lib.hid hE
  clear hE
  have h' : (200 : Int) < (n : Int) ∨ ((n : Int) ≤ 200 ∧ (200 : Int) < (k : Int)) ∨ ((n : Int) ≤ 200 ∧ (k : Int) ≤ 200 ∧ (2000 : Int) < (s.size : Int)) := by omega
  clear h
  rcases h' with h | ⟨h1, h⟩ | ⟨h1, h2, h⟩
  all_goals
    go_enter Tryd.func4, Tryd.ntmps4
    go_wp2_with fail
    refine (A.out _ E.out).mono ?_
    rintro e w1 ⟨rfl, hb⟩
    have B1 := Lib.hid hb
    clear hb
    go_wp2_with fail
    refine (A.out _ (E.out.later B1.out)).mono ?_
    rintro e w2 ⟨rfl, hb⟩
    have B2 := Lib.hid (B1.out.trans (hb.mono B1.out.size))
    clear hb
    go_wp2
    go_ret
    exact ⟨rfl, B2.out⟩
set_option maxRecDepth 100000 in
set_option maxHeartbeats 8000000 in
/-- AsmAssembleDisassemble. -/
theorem law4_main (l m : List Nat) (s : ByteArray) (p q : Option Addr) (c d : Nat) (W : World) (hE : Env W) (hp : Ws W p l) (hq : Ws W q m) (hl : l.length ≤ 200) (hm : m.length ≤ 200) (hs : s.size ≤ 2000) :
    Calls Tryd.prog 4 #[.slice p l.length c, .slice q m.length d, .string s] W fun e w' => e = .returned (.bool true) ∧ Below W.heap.size W w' := by
  have A := Lib.hid (fun W hE => awake_go W hE)
  have E := Lib.hid hE
  have P := Lib.hid hp
  have Q := Lib.hid hq
  have hl32 : ∀ w ∈ l, w < 2 ^ 32 := fun w hw => by
    obtain ⟨k, hk, hk'⟩ := List.getElem_of_mem hw
    exact (hp k w (by rw [List.getElem?_eq_getElem hk, hk'])).1
  have hm32 : ∀ w ∈ m, w < 2 ^ 32 := fun w hw => by
    obtain ⟨k, hk, hk'⟩ := List.getElem_of_mem hw
    exact (hq k w (by rw [List.getElem?_eq_getElem hk, hk'])).1
  have D1 := Lib.hid (fun W hE hp => dis_go l (by omega) p c W hE hp)
  have D2 := Lib.hid (fun W hE hq => dis_go m (by omega) q d W hE hq)
  have S1 := Lib.hid (fun W hE => asm_words l hl32 (by omega) W hE)
  have S2 := Lib.hid (fun W hE => asm_any s (by omega) W hE)
  have W1 := Lib.hid (fun p' c' W hp' hp => words_go l l p' p c' c W hp' hp (by omega) (by omega))
  have W2 := Lib.hid (fun W hp hq => words_go l m p q c d W hp hq (by omega) (by omega))
  rw [decide_eq_true (rfl : l = l)] at W1
  have hinj : Hid (l ≠ m → (⟨(disL l).toArray⟩ : ByteArray) ≠ ⟨(disL m).toArray⟩) := Lib.hid (fun h e => h (disL_inj hl32 hm32 (by have := congrArg (fun b : ByteArray => b.data.toList) e; exact this)))
  obtain ⟨X, hX⟩ : ∃ X : ByteArray, ⟨(disL l).toArray⟩ = X := ⟨_, rfl⟩
  rw [hX] at D1 S1 hinj
  obtain ⟨Y, hY⟩ : ∃ Y : ByteArray, ⟨(disL m).toArray⟩ = Y := ⟨_, rfl⟩
  rw [hY] at D2 hinj
  have hXY : Hid (l = m → X = Y) := Lib.hid (fun h => by rw [← hX, ← hY, h])
  clear hE hp hq hX hY hl32 hm32
  have i1 : (l.length : Int) ≤ 200 := by omega
  have i2 : (m.length : Int) ≤ 200 := by omega
  have i3 : (s.size : Int) ≤ 2000 := by omega
  go_enter Tryd.func4, Tryd.ntmps4
  go_wp2_with fail
  refine (A.out _ E.out).mono ?_
  rintro e w1 ⟨rfl, hb⟩
  have B1 := Lib.hid hb
  clear hb A
  go_wp2_with fail
  refine (D1.out _ (E.out.later B1.out) (P.out.later B1.out)).mono ?_
  rintro e w2 ⟨rfl, hb⟩
  have B2 := Lib.hid (B1.out.trans (hb.mono B1.out.size))
  clear hb D1
  go_wp2_with fail
  refine (S1.out _ (E.out.later B2.out)).mono ?_
  rintro e w3 ⟨hb, p', c', rfl, hws⟩
  have B3 := Lib.hid (B2.out.trans (hb.mono B2.out.size))
  have WS := Lib.hid hws
  clear hb S1 hws
  go_wp2_with fail
  refine (W1.out p' c' _ WS.out (P.out.later B3.out)).mono ?_
  rintro e w4 ⟨rfl, hb⟩
  have B4 := Lib.hid (B3.out.trans (hb.mono B3.out.size))
  clear hb W1 WS
  go_wp2_with fail
  refine (D2.out _ (E.out.later B4.out) (Q.out.later B4.out)).mono ?_
  rintro e w5 ⟨rfl, hb⟩
  have B5 := Lib.hid (B4.out.trans (hb.mono B4.out.size))
  clear hb D2
  go_wp2_with fail
  refine (W2.out _ (P.out.later B5.out) (Q.out.later B5.out)).mono ?_
  rintro e w6 ⟨rfl, hb⟩
  have B6 := Lib.hid (B5.out.trans (hb.mono B5.out.size))
  clear hb W2
  by_cases hlm : l = m
  · obtain rfl : X = Y := hXY.out hlm
    have hdd : decide (l = m) = true := decide_eq_true hlm
    rw [hdd]
    clear hlm hdd hXY hinj
    go_wp2_with fail
    refine (S2.out _ (E.out.later B6.out)).mono ?_
    rintro e w7 ⟨hb, (⟨ws, p2, c2, h32, hwl, hds, rfl, hws⟩ | ⟨k, rfl⟩)⟩
    · have B7 := Lib.hid (B6.out.trans (hb.mono B6.out.size))
      have D3 := dis_go ws (by omega) p2 c2 w7 (E.out.later B7.out) hws
      rw [hds] at D3
      have D3 : Calls Tryd.prog 7 #[.slice p2 ws.length c2] w7 fun e w' => e = .returned (.string s) ∧ Below w7.heap.size w7 w' := D3
      clear hb S2 hws h32 hds hwl
      go_wp2_with fail
      refine D3.mono ?_
      rintro e w8 ⟨rfl, hb⟩
      have B8 := Lib.hid (B7.out.trans (hb.mono B7.out.size))
      clear hb D3
      go_wp2
      go_ret
      exact ⟨rfl, B8.out⟩
    · have B7 := Lib.hid (B6.out.trans (hb.mono B6.out.size))
      clear hb S2
      go_wp2
      go_ret
      exact ⟨rfl, B7.out⟩
  · have h1 := toList_ne (hinj.out hlm)
    have h2 := toList_beq (hinj.out hlm)
    have hdd : decide (l = m) = false := decide_eq_false hlm
    rw [hdd]
    clear hlm hdd hXY hinj
    go_wp2_with fail
    refine (S2.out _ (E.out.later B6.out)).mono ?_
    rintro e w7 ⟨hb, (⟨ws, p2, c2, h32, hwl, hds, rfl, hws⟩ | ⟨k, rfl⟩)⟩
    · have B7 := Lib.hid (B6.out.trans (hb.mono B6.out.size))
      have D3 := dis_go ws (by omega) p2 c2 w7 (E.out.later B7.out) hws
      rw [hds] at D3
      have D3 : Calls Tryd.prog 7 #[.slice p2 ws.length c2] w7 fun e w' => e = .returned (.string s) ∧ Below w7.heap.size w7 w' := D3
      clear hb S2 hws h32 hds hwl
      go_wp2_with fail
      refine D3.mono ?_
      rintro e w8 ⟨rfl, hb⟩
      have B8 := Lib.hid (B7.out.trans (hb.mono B7.out.size))
      clear hb D3
      go_wp2
      go_ret
      exact ⟨rfl, B8.out⟩
    · have B7 := Lib.hid (B6.out.trans (hb.mono B6.out.size))
      clear hb S2
      go_wp2
      go_ret
      exact ⟨rfl, B7.out⟩
theorem law4 (l : List Nat) (p : Option Addr) (c : Nat) (m : List Nat) (q : Option Addr) (d : Nat) (s : ByteArray) (W : World) (hE : Env W) (hp : Ws W p l) (hq : Ws W q m) :
    Calls Tryd.prog 4 #[.slice p l.length c, .slice q m.length d, .string s] W fun e w' => e = .returned (.bool true) ∧ Below W.heap.size W w' := by
  by_cases h : 200 < l.length ∨ 200 < m.length ∨ 2000 < s.size
  · exact law4_long _ _ s p q c d W hE h
  · exact law4_main l m s p q c d W hE hp hq (by omega) (by omega) (by omega)
end Go.Proofs.YtihnglgknncgpaaDoor.Asm
