/- The law AsmLinesAndErrors, walked. -/
import Derived.Test.YtihnglgknncgpaaDoorAw
import Derived.BigFrame
namespace Go.Proofs.YtihnglgknncgpaaDoor.Asm
open Go Go.RowKit Go.Proofs.YtihnglgknncgpaaDoor.PAsmParseFormat Go.Proofs.YtihnglgknncgpaaDoorW.PrintWords Go.Proofs.YtihnglgknncgpaaDoorW.PrintLast Go.Proofs.YtihnglgknncgpaaDoorW.PrintMore Go.Proofs.YtihnglgknncgpaaDoor.Bm Go.Proofs.YtihnglgknncgpaaDoor.Isa
set_option linter.unusedVariables false
set_option linter.unusedSimpArgs false
theorem ba_get (l : List UInt8) (k : Nat) (c : UInt8) (h : l[k]? = some c) : (⟨l.toArray⟩ : ByteArray)[k]? = some c := by
  obtain ⟨hk, rfl⟩ := List.getElem?_eq_some_iff.1 h
  rw [getElem?_pos (⟨l.toArray⟩ : ByteArray) k (show k < (⟨l.toArray⟩ : ByteArray).size from hk)]
  rfl
theorem cnt_disL (ws : List Nat) : (disL ws).count 10 = ws.length := by
  induction ws with
  | nil => rfl
  | cons w ws ih =>
    rw [disL_cons, List.count_append, List.count_append, List.count_eq_zero.2 (lineL_nl w), ih]
    simp
    omega
theorem cat_list (a b : List UInt8) : (⟨a.toArray⟩ : ByteArray) ++ (⟨b.toArray⟩ : ByteArray) = ⟨(a ++ b).toArray⟩ := by
  apply ByteArray.ext
  show ((⟨a.toArray⟩ : ByteArray) ++ (⟨b.toArray⟩ : ByteArray)).data = _
  rw [ByteArray.data_append]
  simp
theorem glue_app (a b : List (List UInt8)) (y : List UInt8) : glue (a ++ b) y = glue a [] ++ glue b y := by simp [glue]
set_option maxRecDepth 100000 in
set_option maxHeartbeats 4000000 in
theorem law3_long (n k : Nat) (s : ByteArray) (p q : Option Addr) (c d : Nat) (W : World) (hE : Env W) (h : 100 < n ∨ 100 < k ∨ 100 < s.size) :
    Calls Tryd.prog 3 #[.slice p n c, .slice q k d, .string s] W fun e w' => e = .returned (.bool true) ∧ Below W.heap.size W w' := by
  have A := Lib.hid (fun W hE => awake_go W hE)
  have E := Lib.hid hE
  clear hE
  have h' : (100 : Int) < (n : Int) ∨ ((n : Int) ≤ 100 ∧ (100 : Int) < (k : Int)) ∨ ((n : Int) ≤ 100 ∧ (k : Int) ≤ 100 ∧ (100 : Int) < (s.size : Int)) := by omega
  clear h
  rcases h' with h | ⟨h1, h⟩ | ⟨h1, h2, h⟩
  all_goals
    go_enter Tryd.func3, Tryd.ntmps3
    go_wp2_with fail
    refine (A.out _ E.out).mono ?_
    rintro e w1 ⟨rfl, hb⟩
    have B1 := Lib.hid hb
    clear hb
    go_wp2_with fail
    refine (A.out _ (E.out.later B1.out)).mono ?_
    rintro e w2 ⟨rfl, hb⟩
    have B2 := Lib.hid (B1.out.trans (hb.mono B1.out.size))
    clear hb
    go_wp2
    go_ret
    exact ⟨rfl, B2.out⟩
/-- asm.Assemble at lines of words, a bad line, lines of words. -/
theorem asm_bad (l m : List Nat) (s : List UInt8) (hl : ∀ w ∈ l, w < 2 ^ 32) (hm : ∀ w ∈ m, w < 2 ^ 32) (hs : (10 : UInt8) ∉ s) (ho : oneL s = none) (h1 : l.length ≤ 100000) (h2 : m.length ≤ 100000) (h3 : s.length ≤ 100000) (W : World) (hE : Env W) :
    Calls Tryd.prog 8 #[.string ⟨(disL l ++ s ++ [10] ++ disL m).toArray⟩] W fun e w' => e = .returned (.tuple #[.slice none 0 0, .int .i64 2, .int .i64 (l.length : Int)]) ∧ Below W.heap.size W w' := by
  have e : disL l ++ s ++ [10] ++ disL m = glue (l.map lineL ++ s :: m.map lineL) [] := by
    rw [glue_app, glue_cons, ← disL_glue, ← disL_glue]
    simp
  have hd1 := disL_len l
  have hd2 := disL_len m
  have hlen : (disL l ++ s ++ [10] ++ disL m).length < 4294967281 := by simp; omega
  rw [e] at hlen ⊢
  refine (asm_go (l.map lineL ++ s :: m.map lineL) [] (fun x hx => ?_) (by simp) hlen W hE).mono ?_
  · rcases List.mem_append.1 hx with hx | hx
    · obtain ⟨w, _, rfl⟩ := List.mem_map.1 hx
      exact lineL_nl w
    · rcases List.mem_cons.1 hx with rfl | hx
      · exact hs
      · obtain ⟨w, _, rfl⟩ := List.mem_map.1 hx
        exact lineL_nl w
  · have hat : (l.map lineL ++ s :: m.map lineL)[l.length]? = some s := by
      rw [List.getElem?_append_right (by simp)]
      simp
    rintro e w' ⟨hb, (⟨ws', p, cap, _, h2, rfl, h4⟩ | ⟨k, ⟨ws', hk, h2, h3⟩, rfl⟩)⟩
    · have := congrArg (fun z => z[l.length]?) h2
      simp only [List.getElem?_map, hat, Option.map_some, ho] at this
      cases hw : ws'[l.length]? with
      | none => rw [hw] at this; cases this
      | some w => rw [hw] at this; cases this
    · have hkl : k ≤ l.length := by
        refine Classical.byContradiction fun hc => ?_
        have := congrArg (fun z => z[l.length]?) h2
        simp only [List.getElem?_map, List.getElem?_take, if_pos (show l.length < k by omega), hat, Option.map_some, ho] at this
        cases hw : ws'[l.length]? with
        | none => rw [hw] at this; cases this
        | some w => rw [hw] at this; cases this
      have hk2 : k = l.length := by
        rcases h3 with ⟨x, h3, h4⟩ | ⟨h3, h4⟩
        · refine Classical.byContradiction fun hc => ?_
          rw [List.getElem?_append_left (by simp; omega), List.getElem?_map] at h3
          obtain ⟨w, hw, rfl⟩ := Option.map_eq_some_iff.1 h3
          rw [one_line (hl w (List.mem_of_getElem? hw))] at h4
          cases h4
        · exact absurd rfl h4
      subst hk2
      exact ⟨rfl, hb⟩
/-- asm.Assemble at one line. -/
theorem asm_single (s : List UInt8) (hs : (10 : UInt8) ∉ s) (h3 : s.length ≤ 100000) (W : World) (hE : Env W) :
    Calls Tryd.prog 8 #[.string ⟨(s ++ [10]).toArray⟩] W fun e w' => Below W.heap.size W w' ∧ ((∃ (n : Nat) (p : Option Addr) (cap : Nat), e = .returned (.tuple #[.slice p n cap, .int .i64 0, .int .i64 0])) ∨ (oneL s = none ∧ ∃ k : Nat, e = .returned (.tuple #[.slice none 0 0, .int .i64 2, .int .i64 (k : Int)]))) := by
  have e : s ++ [10] = glue [s] [] := by rw [glue_cons]; rfl
  have hlen : (s ++ [10]).length < 4294967281 := by simp; omega
  rw [e] at hlen ⊢
  refine (asm_go [s] [] (fun x hx => by rw [List.mem_singleton] at hx; subst hx; exact hs) (by simp) hlen W hE).mono ?_
  rintro e w' ⟨hb, (⟨ws', p, cap, _, h2, rfl, h4⟩ | ⟨k, ⟨ws', hk, h2, (⟨x, h3, h4⟩ | ⟨_, h3⟩)⟩, rfl⟩)⟩
  · exact ⟨hb, .inl ⟨_, _, _, rfl⟩⟩
  · refine ⟨hb, .inr ⟨?_, k, rfl⟩⟩
    match k, h3 with
    | 0, h3 => simp at h3; subst h3; exact h4
    | k + 1, h3 => simp at h3
  · exact absurd rfl h3
/-- An append whose run is known, behind a guard that lets it by. -/
theorem wpList_append_run {P : Program} {w w' : World} {ops : Array Oper} {rest : List Oper} {o : Oper} {a : Act} {Q : Exit → Act → World → Prop} (hw : Region.wanted o (yielded ops a.tmps) = true) (s x : Operand) (t : TypeId)
    (ho : o.op = .call { callee := .builtin .append, args := #[s, x], argTypes := #[t, t] }) (v u v' : Value) (hs : a.eval s = v) (hx : a.eval x = u) (hrun : (Builtin.append_ #[t, t] o.type #[v, u]).run P w = .ok v' w')
    (h : wpList P ops Q rest (a.put o.dst v') w') : wpList P ops Q (o :: rest) a w := by
  refine wpList_step fun K hK => ?_
  rw [if_pos hw]
  unfold Oper.wp
  simp [execOp, ho, resolve, invoke, builtin, hs, hx, hrun, Result.andThen]
  exact hK _ _ h
/-- A slice of words appended to a slice of the call's own. -/
theorem app_any {W : World} {B k : Nat} {v : Value} {us : List Nat} (hown : W.ownsRow B 38 1 v k (wv us)) (p : Option Addr) (ws : List Nat) (c : Nat) (hp : Ws W p ws) (hpc : p = none → c = 0) (h1 : k ≤ 1000000) (h2 : ws.length ≤ 1000000) (hB : B ≤ W.heap.size) :
    ∃ v' w', (Builtin.append_ #[22, 22] 22 #[v, .slice p ws.length c]).run Tryd.prog W = .ok v' w' ∧ w'.ownsRow B 38 1 v' (k + ws.length) (wv (us ++ ws)) ∧ W.grownBy w' v.ownBlock := by
  obtain ⟨i0x, hi, hz0, hz1, hz2⟩ := info_parts info38
  have e : wv (us ++ ws) = wv us ++ wv ws := by simp [wv]
  rw [e]
  cases p with
  | none =>
    have hw : ws = [] := by
      cases ws with
      | nil => rfl
      | cons w ws =>
        obtain ⟨_, a, ha, _⟩ := hp 0 w rfl
        cases ha
    subst hw
    rw [hpc rfl]
    refine ⟨v, W, run_append_owned_none W B 22 22 38 i0x 1 Tryd.underlying22 hi v k _ hown, ?_, grown_refl _ _⟩
    simpa [wv] using hown
  | some a =>
    obtain ⟨v', w', r1, r2, r3, _⟩ := run_append_own (P := Tryd.prog) (w := W) B 22 22 38 i0x (.int .u32 0) 1 4 Tryd.underlying22 hi hz0 hz1 hz2 rfl (by decide) v k (wv us) hown a ws.length c (wv ws) (by simp [wv])
      (fun j u hj => by
        unfold wv at hj
        rw [List.getElem?_map] at hj
        obtain ⟨x, hx, rfl⟩ := Option.map_eq_some_iff.1 hj
        obtain ⟨_, a', ha, _, hc⟩ := hp j x hx
        cases ha
        exact hc) (fun u hu => by
        unfold wv at hu
        obtain ⟨x, _, rfl⟩ := List.mem_map.1 hu
        rfl) (by unfold maxLen; omega) (by omega) hB
    exact ⟨v', w', r1, r2, r3⟩
/-- What stands in the rest of AsmLinesAndErrors. -/
structure L3 (W0 : World) (l m : List Nat) (p q : Option Addr) (W : World) : Prop where
  below : Below W0.heap.size W0 W
  env : Env W
  wl : Ws W p l
  wm : Ws W q m
theorem L3.later {W0 W W' : World} {l m : List Nat} {p q : Option Addr} (h : L3 W0 l m p q W) (hb : Below W.heap.size W W') : L3 W0 l m p q W' :=
  ⟨h.below.trans (hb.mono h.below.size), h.env.later hb, h.wl.later hb, h.wm.later hb⟩
theorem L3.at {W0 W : World} {l m : List Nat} {p q : Option Addr} (h : L3 W0 l m p q W0) (hb : Below W0.heap.size W0 W) : L3 W0 l m p q W := h.later hb
set_option maxRecDepth 100000 in
set_option maxHeartbeats 8000000 in
theorem law3_main (l m : List Nat) (s : List UInt8) (p q : Option Addr) (c d : Nat) (W : World) (hE : Env W) (hp : Ws W p l) (hq : Ws W q m) (hpc : p = none → c = 0) (hqd : q = none → d = 0) (hl : l.length ≤ 100) (hm : m.length ≤ 100) (hs : s.length ≤ 100) :
    Calls Tryd.prog 3 #[.slice p l.length c, .slice q m.length d, .string ⟨s.toArray⟩] W fun e w' => e = .returned (.bool true) ∧ Below W.heap.size W w' := by
  have A := Lib.hid (fun W hE => awake_go W hE)
  have R0 := Lib.hid (show L3 W l m p q W from ⟨Below.refl _ _, hE, hp, hq⟩)
  have hl32 : ∀ w ∈ l, w < 2 ^ 32 := fun w hw => by
    obtain ⟨k, hk, hk'⟩ := List.getElem_of_mem hw
    exact (hp k w (by rw [List.getElem?_eq_getElem hk, hk'])).1
  have hm32 : ∀ w ∈ m, w < 2 ^ 32 := fun w hw => by
    obtain ⟨k, hk, hk'⟩ := List.getElem_of_mem hw
    exact (hq k w (by rw [List.getElem?_eq_getElem hk, hk'])).1
  have R00 := Lib.hid R0.out
  have HL := Lib.hid hl32
  have HM := Lib.hid hm32
  have D1 := Lib.hid (fun W hE hp => dis_go l (by omega) p c W hE hp)
  have D2 := Lib.hid (fun W hE hq => dis_go m (by omega) q d W hE hq)
  have i1 : (l.length : Int) ≤ 100 := by omega
  have i2 : (m.length : Int) ≤ 100 := by omega
  have hsz : (⟨s.toArray⟩ : ByteArray).size = s.length := rfl
  have i3 : ((⟨s.toArray⟩ : ByteArray).size : Int) ≤ 100 := by rw [hsz]; omega
  have hn1 : Hid ((disL l).length ≤ 3700) := Lib.hid (by have := disL_len l; omega)
  have hn2 : Hid ((disL m).length ≤ 3700) := Lib.hid (by have := disL_len m; omega)
  have hcnt := Lib.hid (cnt_disL l)
  clear hE hp hq hl32 hm32
  obtain ⟨S, hS⟩ : ∃ S : ByteArray, ⟨s.toArray⟩ = S := ⟨_, rfl⟩
  rw [hS] at hsz i3 ⊢
  obtain ⟨X, hX⟩ : ∃ X : ByteArray, ⟨(disL l).toArray⟩ = X := ⟨_, rfl⟩
  obtain ⟨Y, hY⟩ : ∃ Y : ByteArray, ⟨(disL m).toArray⟩ = Y := ⟨_, rfl⟩
  rw [hX] at D1
  rw [hY] at D2
  have hXs : X.size = (disL l).length := by rw [← hX]; rfl
  have hYs : Y.size = (disL m).length := by rw [← hY]; rfl
  have HX := Lib.hid hX
  have HY := Lib.hid hY
  have HS := Lib.hid hS
  have hXs' := Lib.hid hXs
  clear hX hY hS
  obtain ⟨n, hn⟩ : ∃ n, (disL l).length = n := ⟨_, rfl⟩
  rw [hn] at hXs
  have hnn : n ≤ 3700 := by rw [← hn]; exact hn1.out
  have hYn : Y.size ≤ 3700 := by rw [hYs]; exact hn2.out
  have hn' := Lib.hid hn
  clear hn hYs
  go_enter Tryd.func3, Tryd.ntmps3
  go_wp2_with fail
  refine (A.out _ R0.out.env).mono ?_
  rintro e w1 ⟨rfl, hb⟩
  have R1 := Lib.hid (R0.out.later hb)
  clear hb A R0
  go_wp2_with fail
  refine (D1.out _ R1.out.env R1.out.wl).mono ?_
  rintro e w2 ⟨rfl, hb⟩
  have R2 := Lib.hid (R1.out.later hb)
  clear hb D1 R1
  go_wp2_with fail
  refine (D2.out _ R2.out.env R2.out.wm).mono ?_
  rintro e w3 ⟨rfl, hb⟩
  have R3 := Lib.hid (R2.out.later hb)
  clear hb D2 R2
  go_wp2_with fail
  go_loop [9, 10] (fun vc vi => ∃ k : Nat, k ≤ n ∧ vi = .int .i64 (k : Int) ∧ ∃ t : Nat, vc = .int .i64 (t : Int) ∧ t ≤ k ∧ Hid (t = ((disL l).take k).count 10)) (fun _ vi => n - (intOf vi).toNat)
  case atStart => exact ⟨0, by omega, rfl, 0, rfl, by omega, Lib.hid rfl⟩
  case round =>
    obtain ⟨k, hk, rfl, t, rfl, htk, ht⟩ := hrel
    by_cases hkn : k < n
    · obtain ⟨x, hx⟩ : ∃ x, (disL l)[k]? = some x := ⟨(disL l)[k]'(by rw [hn'.out]; exact hkn), List.getElem?_eq_getElem _⟩
      have hlt : k < X.size := by omega
      have hg : X[k]'hlt = x := by
        have h1 := ba_get _ _ _ hx
        rw [HX.out] at h1
        exact Option.some.inj ((getElem?_pos X k hlt).symm.trans h1)
      have hx' := Lib.hid hx
      clear hx
      have q1 : (k : Int) < (n : Int) := by omega
      by_cases hx10 : x = 10
      · subst hx10
        have ht' : Hid (t + 1 = ((disL l).take (k + 1)).count 10) := Lib.hid (by rw [List.take_add_one, hx'.out, Option.toList_some, List.count_append, ← ht.out]; rfl)
        go_wp2
        refine ⟨⟨k + 1, by omega, by first | rfl | (congr 1; omega), t + 1, by first | rfl | (congr 1; omega), by omega, ht'⟩, by simp [intOf]; omega⟩
      · have hxn : ¬ x.toNat = 10 := fun h => hx10 (UInt8.toNat_inj.1 h)
        have hxi : ((x.toNat : Int) == 10) = false := by rw [beq_eq_false_iff_ne]; omega
        have ht' : Hid (t = ((disL l).take (k + 1)).count 10) := Lib.hid (by
          rw [List.take_add_one, hx'.out, Option.toList_some, List.count_append, ← ht.out, List.count_eq_zero.2 (by rw [List.mem_singleton]; exact fun h => hx10 h.symm)]
          rfl)
        clear hx10
        go_wp2
        refine ⟨⟨k + 1, by omega, by first | rfl | (congr 1; omega), t, rfl, by omega, ht'⟩, by simp [intOf]; omega⟩
    · obtain rfl : k = n := by omega
      obtain rfl : t = l.length := by rw [ht.out, ← hn'.out, List.take_length, hcnt.out]
      clear ht
      have hown0 : (w3.alloc (.cells #[] 38)).ownsRow W.heap.size 38 1 (.slice (some ⟨w3.heap.size, 0, none⟩) 0 0) 0 (wv []) :=
        ⟨rfl, .inr ⟨w3.heap.size, 0, #[], rfl, by have := R3.out.below.size; omega, World.alloc_heap_new w3 _, Nat.le_refl _, by simp [maxLen], rfl, rfl⟩⟩
      have R3a := Lib.hid (R3.out.later ((Below.refl _ w3).alloc (Nat.le_refl _) (.cells #[] 38)))
      obtain ⟨v5, w5, run5, own5, gr5⟩ := app_any hown0 p l c R3a.out.wl hpc (by omega) (by omega) R3a.out.below.size
      have R5 := Lib.hid (R00.out.at (R3a.out.below.grown gr5 R3a.out.below.size (fun j hj => (hown0.lt j hj).1)))
      rw [Nat.zero_add, List.nil_append] at own5
      obtain ⟨a5, c5, rfl⟩ := slice_of_own own5
      obtain ⟨v6, w6, run6, own6, gr6⟩ := app_any own5 q m d R5.out.wm hqd (by omega) (by omega) R5.out.below.size
      have R6 := Lib.hid (R00.out.at (R5.out.below.grown gr6 R5.out.below.size (fun j hj => (own5.lt j hj).1)))
      obtain ⟨a6, c6, rfl⟩ := slice_of_own own6
      have W6 := ws_of_row own6 (by rw [List.length_append]) (fun x hx => by
        rcases List.mem_append.1 hx with hx | hx
        · exact HL.out x hx
        · exact HM.out x hx)
      have D3 := dis_go (l ++ m) (by rw [List.length_append]; omega) a6 c6 w6 R6.out.env W6
      rw [disL_append, List.length_append, ← cat_list, HX.out, HY.out] at D3
      have hcat1 : ¬ 9223372036854775807 < X.size + Y.size := by omega
      have run5 := Lib.hid run5
      have run6 := Lib.hid run6
      clear own5 own6 W6 hown0 gr5 gr6
      go_wp2_with (first
        | (at_builtin; refine wpList_append_run rfl _ _ 22 rfl _ _ _ rfl rfl run5.out ?_)
        | (at_builtin; refine wpList_append_run rfl _ _ 22 rfl _ _ _ rfl rfl run6.out ?_))
      refine D3.mono ?_
      rintro e w7 ⟨rfl, hb⟩
      have R7 := Lib.hid (R6.out.later hb)
      clear hb D3 run5 run6
      go_wp2
      go_loop [11] (fun vi => ∃ k : Nat, k ≤ s.length ∧ vi = .int .i64 (k : Int) ∧ Hid (∀ j x, j < k → s[j]? = some x → x ≠ 10)) (fun vi => s.length - (intOf vi).toNat)
      case atStart => exact ⟨0, by omega, rfl, Lib.hid (fun j x hj => by omega)⟩
      case round =>
        obtain ⟨k, hk, rfl, hno⟩ := hrel
        by_cases hkn : k < s.length
        · obtain ⟨x, hx⟩ : ∃ x, s[k]? = some x := ⟨s[k], List.getElem?_eq_getElem hkn⟩
          have hlt : k < S.size := by omega
          have hg : S[k]'hlt = x := by
            have h1 := ba_get _ _ _ hx
            rw [HS.out] at h1
            exact Option.some.inj ((getElem?_pos S k hlt).symm.trans h1)
          have q1 : (k : Int) < (s.length : Int) := by omega
          by_cases hx10 : x = 10
          · subst hx10
            go_wp2
            go_ret
            exact ⟨rfl, R7.out.below⟩
          · have hxn : ¬ x.toNat = 10 := fun h => hx10 (UInt8.toNat_inj.1 h)
            have hxi : ((x.toNat : Int) == 10) = false := by rw [beq_eq_false_iff_ne]; omega
            have hno' : Hid (∀ j x, j < k + 1 → s[j]? = some x → x ≠ 10) := Lib.hid (fun j z hj hz => by
              by_cases h : j < k
              · exact hno.out j z h hz
              · obtain rfl : j = k := by omega
                rw [hx] at hz
                cases hz
                exact hx10)
            clear hx10 hx
            go_wp2
            refine ⟨⟨k + 1, by omega, by first | rfl | (congr 1; omega), hno'⟩, by simp [intOf]; omega⟩
        · obtain rfl : k = s.length := by omega
          have hs10 : (10 : UInt8) ∉ s := fun h => by
            obtain ⟨j, hj, he⟩ := List.getElem_of_mem h
            exact hno.out j 10 hj (by rw [List.getElem?_eq_getElem hj, he]) rfl
          have A1 := Lib.hid (fun W hE => asm_single s hs10 (by omega) W hE)
          rw [← cat_list, HS.out] at A1
          have hcat2 : ¬ 9223372036854775807 < S.size + 1 := by omega
          have hcat3 : ¬ 9223372036854775807 < X.size + S.size := by omega
          have hcat4 : ¬ 9223372036854775807 < X.size + S.size + 1 := by omega
          have hcat5 : ¬ 9223372036854775807 < X.size + S.size + 1 + Y.size := by omega
          clear hno
          go_wp2_with fail
          refine (A1.out _ R7.out.env).mono ?_
          rintro e w8 ⟨hb, (⟨n8, p8, c8, rfl⟩ | ⟨ho, k8, rfl⟩)⟩
          · have R8 := Lib.hid (R7.out.later hb)
            clear hb A1
            go_wp2
            go_ret
            exact ⟨rfl, R8.out.below⟩
          · have R8 := Lib.hid (R7.out.later hb)
            have A2 := asm_bad l m s HL.out HM.out hs10 ho (by omega) (by omega) (by omega) w8 R8.out.env
            rw [← cat_list, ← cat_list, ← cat_list, HX.out, HY.out, HS.out] at A2
            clear hb A1 ho
            go_wp2_with fail
            refine A2.mono ?_
            rintro e w9 ⟨rfl, hb⟩
            have R9 := Lib.hid (R8.out.later hb)
            clear hb A2
            go_wp2
            go_ret
            exact ⟨rfl, R9.out.below⟩
theorem law3 (l : List Nat) (p : Option Addr) (c : Nat) (m : List Nat) (q : Option Addr) (d : Nat) (s : ByteArray) (W : World) (hE : Env W) (hp : Ws W p l ∧ (p = none → c = 0)) (hq : Ws W q m ∧ (q = none → d = 0)) :
    Calls Tryd.prog 3 #[.slice p l.length c, .slice q m.length d, .string s] W fun e w' => e = .returned (.bool true) ∧ Below W.heap.size W w' := by
  by_cases h : 100 < l.length ∨ 100 < m.length ∨ 100 < s.size
  · exact law3_long _ _ s p q c d W hE h
  · have e : s = ⟨s.data.toList.toArray⟩ := rfl
    rw [e]
    have hs : s.data.toList.length = s.size := by rw [Lib.size_eq]
    exact law3_main l m s.data.toList p q c d W hE hp.1 hq.1 hp.2 hq.2 (by omega) (by omega) (by omega)
end Go.Proofs.YtihnglgknncgpaaDoor.Asm
