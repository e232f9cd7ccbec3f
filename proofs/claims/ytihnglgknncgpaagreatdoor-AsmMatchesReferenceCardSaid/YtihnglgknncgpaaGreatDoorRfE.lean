/- The reference's Get, walked. -/
import Derived.Test.YtihnglgknncgpaaGreatDoorRfD
namespace Go.Proofs.YtihnglgknncgpaaGreatDoor.Asm
open Go Go.RowKit Go.Proofs.YtihnglgknncgpaaGreatDoor.PAsmEveryWordHasOneLine Go.Proofs.YtihnglgknncgpaaGreatDoorW.PrintWords Go.Proofs.YtihnglgknncgpaaGreatDoorW.PrintLast Go.Proofs.YtihnglgknncgpaaGreatDoorW.PrintMore Go.Proofs.YtihnglgknncgpaaGreatDoor.Bm Go.Proofs.YtihnglgknncgpaaGreatDoor.Isa
set_option linter.unusedVariables false
set_option linter.unusedSimpArgs false
/-! ### The reference's Get -/
/-- Where line j begins. -/
def posL (xs : List (List UInt8)) (j : Nat) : Nat := ((xs.take j).flatMap (fun x => x ++ [10])).length
theorem glue_at {xs : List (List UInt8)} {j : Nat} {x : List UInt8} (y : List UInt8) (h : xs[j]? = some x) :
    ∃ A B, glue xs y = A ++ (x ++ 10 :: B) ∧ A.length = posL xs j ∧ posL xs (j + 1) = posL xs j + x.length + 1 := by
  have hj : j < xs.length := (List.getElem?_eq_some_iff.1 h).1
  have hx : xs[j] = x := (List.getElem?_eq_some_iff.1 h).2
  refine ⟨(xs.take j).flatMap (fun x => x ++ [10]), glue (xs.drop (j + 1)) y, ?_, rfl, ?_⟩
  · conv => lhs; rw [← List.take_append_drop j xs]
    rw [List.drop_eq_getElem_cons hj, hx]
    simp [glue]
  · unfold posL
    rw [List.take_add_one, h]
    simp
    omega
theorem glue_end (xs : List (List UInt8)) (y : List UInt8) : ∃ A, glue xs y = A ++ y ∧ A.length = posL xs xs.length := ⟨_, rfl, by unfold posL; rw [List.take_length]⟩
theorem line_facts {xs : List (List UInt8)} {j : Nat} {x : List UInt8} (y : List UInt8) (h : xs[j]? = some x) :
    (∀ m c, x[m]? = some c → (glue xs y)[posL xs j + m]? = some c) ∧ (glue xs y)[posL xs j + x.length]? = some 10 ∧ posL xs j + x.length < (glue xs y).length ∧
    (⟨(glue xs y).toArray⟩ : ByteArray).extract (posL xs j) (posL xs j + x.length + 1) = ⟨(x ++ [10]).toArray⟩ ∧ posL xs (j + 1) = posL xs j + x.length + 1 := by
  obtain ⟨A, B, h1, h2, h3⟩ := glue_at y h
  rw [h1, ← h2]
  refine ⟨fun m c hm => ?_, ?_, by simp, ?_, by rw [h2]; exact h3⟩
  · have hml := (List.getElem?_eq_some_iff.1 hm).1
    rw [List.getElem?_append_right (by omega), Nat.add_sub_cancel_left, List.getElem?_append_left hml, hm]
  · rw [List.getElem?_append_right (by omega), Nat.add_sub_cancel_left, List.getElem?_append_right (by omega), Nat.sub_self]
    rfl
  · rw [ext_list, List.drop_left' rfl]
    have e : A.length + x.length + 1 - A.length = (x ++ [(10 : UInt8)]).length := by rw [List.length_append]; simp; omega
    have e2 : x ++ 10 :: B = (x ++ [10]) ++ B := by simp
    rw [e, e2, List.take_left' rfl]
    rfl
theorem rest_facts (xs : List (List UInt8)) (y : List UInt8) : (∀ m c, y[m]? = some c → (glue xs y)[posL xs xs.length + m]? = some c) ∧ (glue xs y).length = posL xs xs.length + y.length := by
  obtain ⟨A, h1, h2⟩ := glue_end xs y
  rw [h1, ← h2]
  refine ⟨fun m c hm => ?_, by simp⟩
  rw [List.getElem?_append_right (by omega), Nat.add_sub_cancel_left, hm]
theorem posL_zero (xs : List (List UInt8)) : posL xs 0 = 0 := rfl
/-- How Assemble, and the reference's Get, end. -/
def GetE (xs : List (List UInt8)) (y : List UInt8) (e : Ending) (w' : World) : Prop :=
  (∃ (ws : List Nat) (p : Option Addr) (cap : Nat), y = [] ∧ xs.map oneL = ws.map some ∧ e = .returned (.tuple #[.slice p ws.length cap, .int .i64 0, .int .i64 0]) ∧ Ws w' p ws) ∨
    (∃ k : Nat, asmBad xs y k ∧ e = .returned (.tuple #[.slice none 0 0, .int .i64 2, .int .i64 (k : Int)]))
set_option maxRecDepth 100000 in
set_option maxHeartbeats 8000000 in
theorem get_ref (xs : List (List UInt8)) (y : List UInt8) (hxs : ∀ x ∈ xs, (10 : UInt8) ∉ x) (hy : (10 : UInt8) ∉ y) (hlen : (glue xs y).length ≤ 1000000) (W : World) :
    Calls Tryz.prog 13 #[.string ⟨(glue xs y).toArray⟩] W fun e w' => Below W.heap.size W w' ∧ GetE xs y e w' := by
  have ON := Lib.hid (fun x hx W => rone_ref x hx W)
  have HX := Lib.hid hxs
  have HY := Lib.hid hy
  have hget := Lib.hid (fun k c h => ba_get (glue xs y) k c h)
  have LF := Lib.hid (fun j x (h : xs[j]? = some x) => line_facts y h)
  have RF := Lib.hid (rest_facts xs y)
  have hxl := len_glue xs y
  obtain ⟨n, hn⟩ : ∃ n, (glue xs y).length = n := ⟨_, rfl⟩
  obtain ⟨S, hS⟩ : ∃ S : ByteArray, ⟨(glue xs y).toArray⟩ = S := ⟨_, rfl⟩
  have hsz : S.size = n := by rw [← hS, ← hn]; exact List.size_toArray
  have HN := Lib.hid hn
  rw [hS] at hget ⊢
  rw [hn] at hlen hxl
  have HS := Lib.hid hS
  clear hS hn hxs hy
  obtain ⟨i0x, hi, hz0, hz1, hz2⟩ := info_parts info38
  go_enter Tryz.func13, Tryz.ntmps13
  go_wp2_with fail
  go_loopw [5, 6] (fun vo va wr => ∃ (j : Nat) (ws : List Nat), j ≤ xs.length ∧ ws.length = j ∧ va = .int .i64 (posL xs j : Int) ∧ wr.ownsRow W.heap.size 22 1 vo j (wv ws) ∧ Hid ((xs.take j).map oneL = ws.map some ∧ ∀ u ∈ ws, u < 2 ^ 32) ∧ Hid (Below W.heap.size W wr)) (fun _ va _ => n + 1 - (intOf va).toNat)
  case atStart => exact ⟨0, [], by omega, rfl, rfl, World.ownsRow_nil _ _ _ _, Lib.hid ⟨rfl, by simp⟩, Lib.hid (by repeat (first | exact Below.refl _ _ | refine Below.drew ?_ | refine bdrew ?_ _))⟩
  case round =>
    obtain ⟨j, ws, hj, hwl, rfl, hown, hws, hB⟩ := hrel
    by_cases hjn : j < xs.length
    · obtain ⟨x, hx⟩ : ∃ x, xs[j]? = some x := ⟨xs[j], List.getElem?_eq_getElem hjn⟩
      obtain ⟨f1, f2, f3, f4, f5⟩ := LF.out j x hx
      have hx10 : (10 : UInt8) ∉ x := HX.out x (List.mem_of_getElem? hx)
      rw [HN.out] at f3
      rw [HS.out] at f4
      obtain ⟨P, hP⟩ : ∃ P, posL xs j = P := ⟨_, rfl⟩
      rw [hP] at f1 f2 f3 f4 f5
      simp only [hP]
      have F1 := Lib.hid f1
      have F2 := Lib.hid f2
      have F4 := Lib.hid f4
      have HX10 := Lib.hid hx10
      have HXJ := Lib.hid hx
      have HP := Lib.hid hP
      have F5 := Lib.hid f5
      clear f1 f2 f4 f5 hx10 hx hP
      have q1 : (P : Int) < (n : Int) := by omega
      go_wp2_with fail
      go_loop [7] (fun vk => ∃ K : Nat, P ≤ K ∧ K ≤ P + x.length ∧ vk = .int .i64 (K : Int)) (fun vk => P + x.length - (intOf vk).toNat)
      case atStart => exact ⟨P, by omega, by omega, rfl⟩
      case round =>
        obtain ⟨K, hK1, hK, rfl⟩ := hrel
        have q2 : (K : Int) < (n : Int) := by omega
        have hlt : K < S.size := by omega
        by_cases hme : K < P + x.length
        · obtain ⟨c, hc⟩ : ∃ c, x[K - P]? = some c := ⟨x[K - P]'(by omega), List.getElem?_eq_getElem _⟩
          have hc10 : c ≠ 10 := fun e => HX10.out (e ▸ List.mem_of_getElem? hc)
          have hg : S[K]'hlt = c := by
            have h1 := hget.out K c (by have := F1.out _ c hc; rw [show P + (K - P) = K by omega] at this; exact this)
            exact Option.some.inj ((getElem?_pos S K hlt).symm.trans h1)
          have hxi : ((c.toNat : Int) == 10) = false := by
            rw [beq_eq_false_iff_ne]
            intro h
            apply hc10
            apply UInt8.toNat_inj.1
            show c.toNat = 10
            omega
          clear hc hc10
          go_wp2
          exact ⟨⟨K + 1, by omega, by omega, by congr 1⟩, by simp [intOf]; omega⟩
        · have hKe := Lib.hid (show K = P + x.length by omega)
          have hg : S[K]'hlt = 10 := by
            have h1 := hget.out K 10 (by rw [hKe.out]; exact F2.out)
            exact Option.some.inj ((getElem?_pos S K hlt).symm.trans h1)
          have f4 : S.extract P (K + 1) = ⟨(x ++ [10]).toArray⟩ := by rw [hKe.out]; exact F4.out
          have hxl1 : x.length ≤ 1000000 := by omega
          have O := ON.out x hxl1 wr
          have q5 : ¬ (K : Int) = (n : Int) := by omega
          have q6 : (P : Int) ≤ (K : Int) + 1 := by omega
          have q7 : (K : Int) + 1 ≤ (n : Int) := by omega
          obtain ⟨X, hX⟩ : ∃ X : ByteArray, ⟨(x ++ [10]).toArray⟩ = X := ⟨_, rfl⟩
          rw [hX] at f4 O
          have hnx : Hid (posL xs (j + 1) = K + 1) := Lib.hid (by rw [F5.out, hKe.out])
          clear hX hme hxl1
          have HWS := hws
          clear hws
          cases ho : oneL x with
          | none =>
            rw [ho] at O
            have hbad : Hid (asmBad xs y j) := Lib.hid ⟨ws, hwl, HWS.out.1, .inl ⟨x, HXJ.out, ho⟩⟩
            obtain ⟨ao, cap, rfl⟩ := slice_of_own hown
            clear ho hown
            go_wp2_with fail
            refine O.mono ?_
            rintro e w1 ⟨⟨u, hu, rfl, hsm⟩, hb⟩
            have B1 := Lib.hid (hB.out.trans (hb.mono hB.out.size))
            clear hb O hsm
            go_wp2
            go_ret3
            exact ⟨B1.out, .inr ⟨j, hbad.out, rfl⟩⟩
          | some v =>
            rw [ho] at O
            have ho := Lib.hid ho
            go_wp2_with fail
            refine O.mono ?_
            rintro e w1 ⟨⟨u, hu, rfl, hsm⟩, hb⟩
            obtain rfl : v = u := Option.some.inj (hsm rfl)
            have B1 := Lib.hid (hB.out.trans (hb.mono hB.out.size))
            have hown1 : w1.ownsRow W.heap.size 22 1 u5 j (wv ws) := hown.kept (grown_of_below hb) (by cases u5.ownBlock <;> simp)
            have hbase : W.heap.size ≤ w1.heap.size := B1.out.size
            obtain ⟨ao, cap, rfl⟩ := slice_of_own hown1
            clear hb O hsm hown
            go_wp2_with (first
              | (at_builtin; refine wpList_append_own _ rfl _ _ 25 rfl W.heap.size 22 i0x (.int .u32 0) 1 4 Tryz.underlying25 hi hz0 hz1 hz2 rfl (by decide) _ _ _ rfl (hown1.alloc _) ⟨w1.heap.size, 0, none⟩ 1 1 [.int .u32 (v : Int)] rfl rfl (cell_one_new w1 _ 22) (fun x hx => by simp at hx; subst hx; rfl) (by unfold maxLen; omega) (by omega) (by simp; omega) ?_; intro v' w3 hown' hgrow hnil))
            have hb3 : Below W.heap.size W w3 := Below.grown (B1.out.alloc hbase _) hgrow (by simp; omega) (fun j hj => (hown1.lt _ hj).1)
            go_roundw
            case rel =>
              refine ⟨j + 1, ws ++ [v], by omega, by simp [hwl], by rw [hnx.out]; go_num, ?_, Lib.hid ⟨?_, ?_⟩, Lib.hid hb3⟩
              · have : wv (ws ++ [v]) = wv ws ++ [.int .u32 (v : Int)] := by simp [wv]
                rw [this]
                exact hown'
              · rw [List.take_add_one, HXJ.out, Option.toList_some, List.map_append, List.map_append, HWS.out.1]
                simp [ho.out]
              · intro z hz
                rcases List.mem_append.1 hz with hz | hz
                · exact HWS.out.2 z hz
                · rw [List.mem_singleton] at hz; subst hz; exact hu
            case measure => simp [intOf]; omega
    · obtain hje : j = xs.length := by omega
      have hPn : posL xs j + y.length = n := by rw [hje, ← RF.out.2]; exact HN.out
      have HJE := Lib.hid hje
      obtain ⟨P, hP⟩ : ∃ P, posL xs j = P := ⟨_, rfl⟩
      have HP := Lib.hid hP
      rw [hP] at hPn
      simp only [hP]
      clear hP hje
      by_cases hy0 : y.length = 0
      · have q1 : ¬ (P : Int) < (n : Int) := by omega
        have HY0 := Lib.hid hy0
        have HWL := Lib.hid hwl
        have hown2 : wr.ownsRow W.heap.size 22 1 u5 ws.length (wv ws) := by rw [HWL.out]; exact hown
        obtain ⟨ao, cap, rfl⟩ := slice_of_own hown2
        have Hown := Lib.hid hown2
        clear hy0 hown hown2 hwl hPn
        go_wp2
        go_ret3
        refine ⟨hB.out, .inl ⟨ws, ao, cap, List.eq_nil_of_length_eq_zero HY0.out, ?_, rfl, ?_⟩⟩
        · have := hws.out.1
          rwa [HJE.out, List.take_length] at this
        · exact ws_of_row Hown.out rfl hws.out.2
      · have q1 : (P : Int) < (n : Int) := by omega
        have hbad : Hid (asmBad xs y j) := Lib.hid ⟨ws, hwl, hws.out.1, .inr ⟨HJE.out, fun e => hy0 (by rw [e]; rfl)⟩⟩
        obtain ⟨ao, cap, rfl⟩ := slice_of_own hown
        clear hown hwl hws
        go_wp2_with fail
        go_loop [7] (fun vk => ∃ K : Nat, P ≤ K ∧ K ≤ n ∧ vk = .int .i64 (K : Int)) (fun vk => n - (intOf vk).toNat)
        case atStart => exact ⟨P, by omega, by omega, rfl⟩
        case round =>
          obtain ⟨K, hK1, hK, rfl⟩ := hrel
          by_cases hme : K < n
          · have hlt : K < S.size := by omega
            obtain ⟨c, hc⟩ : ∃ c, y[K - P]? = some c := ⟨y[K - P]'(by omega), List.getElem?_eq_getElem _⟩
            have hc10 : c ≠ 10 := fun e => HY.out (e ▸ List.mem_of_getElem? hc)
            have hg : S[K]'hlt = c := by
              have h1 := hget.out K c (by have := RF.out.1 _ c hc; rw [← HJE.out, HP.out, show P + (K - P) = K by omega] at this; exact this)
              exact Option.some.inj ((getElem?_pos S K hlt).symm.trans h1)
            have hxi : ((c.toNat : Int) == 10) = false := by
              rw [beq_eq_false_iff_ne]
              intro h
              apply hc10
              apply UInt8.toNat_inj.1
              show c.toNat = 10
              omega
            have q2 : (K : Int) < (n : Int) := by omega
            clear hc hc10
            go_wp2
            exact ⟨⟨K + 1, by omega, by omega, by congr 1⟩, by simp [intOf]; omega⟩
          · obtain hKn : ¬ (K : Int) < (n : Int) := by omega
            have hKe : (K : Int) == (n : Int) := by rw [beq_iff_eq]; omega
            go_wp2
            go_ret3
            exact ⟨hB.out, .inr ⟨j, hbad.out, rfl⟩⟩
end Go.Proofs.YtihnglgknncgpaaGreatDoor.Asm
