/- The law AsmEveryWordHasOneLine, walked. -/
import Derived.Test.YtihnglgknncgpaaGreatDoorAw
import Derived.Test.YtihnglgknncgpaaGreatDoorIsaW5
namespace Go.Proofs.YtihnglgknncgpaaGreatDoor.Asm
open Go Go.RowKit Go.Proofs.YtihnglgknncgpaaGreatDoor.PAsmEveryWordHasOneLine Go.Proofs.YtihnglgknncgpaaGreatDoorW.PrintWords Go.Proofs.YtihnglgknncgpaaGreatDoorW.PrintLast Go.Proofs.YtihnglgknncgpaaGreatDoorW.PrintMore Go.Proofs.YtihnglgknncgpaaGreatDoor.Bm Go.Proofs.YtihnglgknncgpaaGreatDoor.Isa
set_option linter.unusedVariables false
set_option linter.unusedSimpArgs false
theorem hexN_step (w j : Nat) (hj : j < 8) : hexN (j + 1) (w / 16 ^ (8 - (j + 1))) [] = hexN j (w / 16 ^ (8 - j)) [] ++ [hexd (w / 16 ^ (7 - j) % 16)] := by
  have e1 : 8 - (j + 1) = 7 - j := by omega
  have e2 : 8 - j = 7 - j + 1 := by omega
  rw [hexN_snoc, e1, e2, Nat.div_div_eq_div_mul, Nat.pow_succ]
theorem hex_ext : ∀ d : Nat, d < 16 → (⟨#[48, 49, 50, 51, 52, 53, 54, 55, 56, 57, 97, 98, 99, 100, 101, 102]⟩ : ByteArray).extract d (d + 1) = ⟨#[hexd d]⟩ := by decide +kernel
theorem run_hex (x : Int) (d : Nat) (hx : x = (d : Int)) (hd : d < 16) (W : World) :
    (Instr.slice 9 (.string ⟨#[48, 49, 50, 51, 52, 53, 54, 55, 56, 57, 97, 98, 99, 100, 101, 102]⟩) (some (.int .u32 x)) (some (.int .u32 (x + 1))) none).run Tryz.prog W = .ok (.string ⟨#[hexd d]⟩) W := by
  subst hx
  rw [← hex_ext d hd]
  exact run_slice_string W 9 _ .u32 .u32 _ _ Tryz.underlying9 (by omega) (by omega) (by show (d : Int) + 1 ≤ 16; omega)
/-- A word that decodes is no line in hexadecimal. -/
theorem hex_none {w : Nat} (hw : w < 2 ^ 32) (hd : decOk w = true) : oneL ([119, 111, 114, 100, 32] ++ hexN 8 w []) = none := by
  unfold oneL oneP
  rw [if_neg (parse_word w)]
  have ht : Lib.trimPrefix ([119, 111, 114, 100, 32] ++ hexN 8 w []) [119, 111, 114, 100, 32] = hexN 8 w [] := by
    unfold Lib.trimPrefix
    rw [if_pos (by simp [Lib.hasPrefix])]
    exact List.drop_left' (by simp)
  have hn : hexN 8 w [] ≠ [] := fun h => by have := hexN_len 8 w []; rw [h] at this; simp at this
  have hu : wordU ⟨([119, 111, 114, 100, 32] ++ hexN 8 w []).toArray⟩ = .ok w := by
    show puR (Lib.trimPrefix ([119, 111, 114, 100, 32] ++ hexN 8 w []) [119, 111, 114, 100, 32]) = _
    rw [ht, puR, if_neg hn, pu_hex 8 w (by omega) (by omega)]
  rw [hu]
  simp only []
  rw [if_neg]
  intro h
  have hv := decOk_vld hd
  have hl : lineL w = (txt (decI w)).data.toList := by unfold lineL; rw [if_pos hd]
  apply parse_word w
  have e : (⟨([119, 111, 114, 100, 32] ++ hexN 8 w []).toArray⟩ : ByteArray) = txt (decI w) := by
    apply ByteArray.ext
    apply Array.ext'
    exact h.symm.trans hl
  rw [e]
  unfold parseOk
  rw [read_txt hv]
  exact ⟨hv, rfl⟩
theorem cat_list (a b : List UInt8) : (⟨a.toArray⟩ : ByteArray) ++ (⟨b.toArray⟩ : ByteArray) = ⟨(a ++ b).toArray⟩ := by
  apply ByteArray.ext
  show ((⟨a.toArray⟩ : ByteArray) ++ (⟨b.toArray⟩ : ByteArray)).data = _
  rw [ByteArray.data_append]
  simp
theorem asm_hex {w : Nat} (hw : w < 2 ^ 32) (hd : decOk w = true) (W : World) (hE : Env W) :
    Calls Tryz.prog 9 #[.string ⟨([119, 111, 114, 100, 32] ++ hexN 8 w [] ++ [10]).toArray⟩] W fun e w' => e = .returned (.tuple #[.slice none 0 0, .int .i64 2, .int .i64 0]) ∧ Below W.heap.size W w' := by
  have hn : hexN 8 w [] = hexN 8 w [] := rfl
  have e : [119, 111, 114, 100, 32] ++ hexN 8 w [] ++ [10] = glue [[119, 111, 114, 100, 32] ++ hexN 8 w []] [] := by rw [glue_cons]; rfl
  have hlen : ([119, 111, 114, 100, 32] ++ hexN 8 w [] ++ [10]).length < 4294967281 := by
    rw [List.length_append, List.length_append, hexN_len]; decide
  have hnl : (10 : UInt8) ∉ [119, 111, 114, 100, 32] ++ hexN 8 w [] := by
    rw [List.mem_append]
    rintro (h | h)
    · revert h; decide
    · exact hexN_nl 8 w [] (by simp) h
  rw [e] at hlen ⊢
  refine (asm_go [[119, 111, 114, 100, 32] ++ hexN 8 w []] [] (fun x hx => by rw [List.mem_singleton] at hx; subst hx; exact hnl) (by simp) hlen W hE).mono ?_
  rintro e w' ⟨hb, (⟨ws', p, cap, _, h2, rfl, h4⟩ | ⟨k, ⟨ws', hk, h2, (⟨x, h3, h4⟩ | ⟨_, h3⟩)⟩, rfl⟩)⟩
  · have := congrArg (fun z => z[0]?) h2
    simp only [List.map_cons, List.map_nil, List.getElem?_cons_zero, hex_none hw hd, List.getElem?_map] at this
    cases hz : ws'[0]? with
    | none => rw [hz] at this; cases this
    | some z => rw [hz] at this; cases this
  · match k, h3 with
    | 0, h3 => exact ⟨rfl, hb⟩
    | k + 1, h3 => simp at h3
  · exact absurd rfl h3
theorem ws_one (W : World) (w : Nat) (hw : w < 2 ^ 32) : Ws (W.alloc (.cells #[.int .u32 (w : Int)] 22)) (some ⟨W.heap.size, 0, none⟩) [w] := by
  intro k x hk
  have hc : ∀ u, [Value.int .u32 (w : Int)][k]? = some u → _ := cells_new3 W [.int .u32 (w : Int)] 22 k
  match k, hk with
  | 0, hk => simp at hk; subst hk; exact ⟨hw, _, rfl, World.block_lt_of_cell? _ _ (hc _ rfl), hc _ rfl⟩
  | k + 1, hk => simp at hk
theorem hex_grow (w j : Nat) (hj : j < 8) (T : ByteArray) (hT : ⟨([119, 111, 114, 100, 32] ++ hexN j (w / 16 ^ (8 - j)) []).toArray⟩ = T) :
    T ++ (⟨#[hexd (w / 16 ^ (7 - j) % 16)]⟩ : ByteArray) = ⟨([119, 111, 114, 100, 32] ++ hexN (j + 1) (w / 16 ^ (8 - (j + 1))) []).toArray⟩ := by
  rw [← hT, hexN_step w j hj, ← List.append_assoc]; exact cat_list _ [_]
theorem lineL_ok {w : Nat} (h : decOk w = true) : lineL w = (txt (decI w)).data.toList := by unfold lineL; rw [if_pos h]
theorem lineL_no {w : Nat} (h : decOk w = false) : lineL w = [119, 111, 114, 100, 32] ++ hexN 8 w [] := by unfold lineL; rw [if_neg (by rw [h]; decide)]
set_option maxRecDepth 100000 in
set_option maxHeartbeats 8000000 in
theorem lawz1 (w : Nat) (W : World) (hE : Env W) (hw : w < 2 ^ 32) : Calls Tryz.prog 3 #[.int .u32 (w : Int)] W fun e w' => e = .returned (.bool true) ∧ Below W.heap.size W w' := by
  have A := Lib.hid (fun W hE => awake_go W hE)
  have E := Lib.hid hE
  have D := Lib.hid (fun p W hE hp => dis_go [w] (by simp) p 1 W hE hp)
  have e1 : disL [w] = lineL w ++ [10] := by simp [disL]
  rw [e1] at D
  have R := Lib.hid (fun W => rdec_any w W hw)
  have F := Lib.hid (fun W hE => fmt_go (decR w) W hE)
  have H := Lib.hid (fun hd W hE => asm_hex hw hd W hE)
  obtain ⟨ok, hok⟩ : ∃ ok, decOk w = ok := ⟨_, rfl⟩
  rw [hok] at R H
  obtain ⟨i, hi⟩ : ∃ i, decR w = i := ⟨_, rfl⟩
  rw [hi] at R F
  obtain ⟨L, hL⟩ : ∃ L : ByteArray, ⟨(lineL w ++ [10]).toArray⟩ = L := ⟨_, rfl⟩
  rw [hL] at D
  obtain ⟨X, hX⟩ : ∃ X : ByteArray, ⟨([119, 111, 114, 100, 32] ++ hexN 8 w [] ++ [10]).toArray⟩ = X := ⟨_, rfl⟩
  rw [hX] at H
  have HX := Lib.hid hX
  have HL := Lib.hid hL
  have HI := Lib.hid hi
  have HO := Lib.hid hok
  clear hX hL hE e1 hi hok
  obtain ⟨i0, i1, i2, i3, i4⟩ := i
  simp only [In.v, List.length_cons, List.length_nil] at R F D
  go_enter Tryz.func3, Tryz.ntmps3
  go_wp2_with fail
  refine (A.out _ E.out).mono ?_
  rintro e w1 ⟨rfl, hb⟩
  have B1 := Lib.hid hb
  have B1a := Lib.hid (hb.trans (((Below.refl w1.heap.size w1).alloc (Nat.le_refl _) (.cells #[.int .u32 (w : Int)] 22)).mono hb.size))
  clear hb A
  go_wp2_with fail
  refine (D.out _ _ (E.out.later B1a.out) (ws_one w1 w hw)).mono ?_
  rintro e w2 ⟨rfl, hb⟩
  have B2 := Lib.hid (B1a.out.trans (hb.mono B1a.out.size))
  clear hb D B1 B1a
  go_wp2_with fail
  refine (R.out _).mono ?_
  rintro e w3 ⟨rfl, hb⟩
  have B3 := Lib.hid (B2.out.trans (hb.mono B2.out.size))
  clear hb R B2
  go_wp2
  go_loop [6, 7] (fun vh vk => ∃ j : Nat, j ≤ 8 ∧ vk = .int .i64 (7 - (j : Int)) ∧ vh = .string ⟨([119, 111, 114, 100, 32] ++ hexN j (w / 16 ^ (8 - j)) []).toArray⟩) (fun _ vk => (intOf vk + 1).toNat)
  case atStart => exact ⟨0, by omega, rfl, rfl⟩
  case round =>
    obtain ⟨j, hj, rfl, rfl⟩ := hrel
    by_cases hj8 : j < 8
    · have hst := Lib.hid (hexN_step w j hj8)
      have hln := Lib.hid (hexN_len j (w / 16 ^ (8 - j)) [])
      have hd16 : w / 16 ^ (7 - j) % 16 < 16 := Nat.mod_lt _ (by decide)
      have hx := hex_ext _ hd16
      obtain ⟨T, hT⟩ : ∃ T : ByteArray, ⟨([119, 111, 114, 100, 32] ++ hexN j (w / 16 ^ (8 - j)) []).toArray⟩ = T := ⟨_, rfl⟩
      have hTs : T.size ≤ 13 := by rw [← hT]; show ([119, 111, 114, 100, 32] ++ hexN j (w / 16 ^ (8 - j)) []).length ≤ 13; rw [List.length_append, hln.out]; simp; omega
      have HT := Lib.hid hT
      simp only [hT]
      clear hT
      have hcat : ¬ 9223372036854775807 < T.size + 1 := by omega
      have hcase : j = 0 ∨ j = 1 ∨ j = 2 ∨ j = 3 ∨ j = 4 ∨ j = 5 ∨ j = 6 ∨ j = 7 := by omega
      rcases hcase with rfl | rfl | rfl | rfl | rfl | rfl | rfl | rfl
      all_goals
        have hgr := Lib.hid (hex_grow w _ hj8 T HT.out)
      · go_wp2
        rw [run_hex _ (w / 16 ^ (7 - 0) % 16) (by simp) hd16]
        go_wp2
        exact ⟨⟨1, by omega, by first | rfl | (congr 1; omega), congrArg Value.string hgr.out⟩, by simp [intOf]⟩
      · go_wp2
        rw [run_hex _ (w / 16 ^ (7 - 1) % 16) (by simp) hd16]
        go_wp2
        exact ⟨⟨2, by omega, by first | rfl | (congr 1; omega), congrArg Value.string hgr.out⟩, by simp [intOf]⟩
      · go_wp2
        rw [run_hex _ (w / 16 ^ (7 - 2) % 16) (by simp) hd16]
        go_wp2
        exact ⟨⟨3, by omega, by first | rfl | (congr 1; omega), congrArg Value.string hgr.out⟩, by simp [intOf]⟩
      · go_wp2
        rw [run_hex _ (w / 16 ^ (7 - 3) % 16) (by simp) hd16]
        go_wp2
        exact ⟨⟨4, by omega, by first | rfl | (congr 1; omega), congrArg Value.string hgr.out⟩, by simp [intOf]⟩
      · go_wp2
        rw [run_hex _ (w / 16 ^ (7 - 4) % 16) (by simp) hd16]
        go_wp2
        exact ⟨⟨5, by omega, by first | rfl | (congr 1; omega), congrArg Value.string hgr.out⟩, by simp [intOf]⟩
      · go_wp2
        rw [run_hex _ (w / 16 ^ (7 - 5) % 16) (by simp) hd16]
        go_wp2
        exact ⟨⟨6, by omega, by first | rfl | (congr 1; omega), congrArg Value.string hgr.out⟩, by simp [intOf]⟩
      · go_wp2
        rw [run_hex _ (w / 16 ^ (7 - 6) % 16) (by simp) hd16]
        go_wp2
        exact ⟨⟨7, by omega, by first | rfl | (congr 1; omega), congrArg Value.string hgr.out⟩, by simp [intOf]⟩
      · go_wp2
        rw [run_hex _ (w / 16 ^ (7 - 7) % 16) (by simp) hd16]
        go_wp2
        exact ⟨⟨8, by omega, by first | rfl | (congr 1; omega), by have := hgr.out; simp only [Nat.sub_self, Nat.pow_zero, Nat.div_one] at this ⊢; exact congrArg Value.string this⟩, by simp [intOf]⟩
    · obtain rfl : j = 8 := by omega
      have e8 : w / 16 ^ (8 - 8) = w := by simp
      obtain ⟨T, hT⟩ : ∃ T : ByteArray, ⟨([119, 111, 114, 100, 32] ++ hexN 8 (w / 16 ^ (8 - 8)) []).toArray⟩ = T := ⟨_, rfl⟩
      simp only [hT]
      have hTs : T.size = 13 := by rw [← hT]; show ([119, 111, 114, 100, 32] ++ hexN 8 (w / 16 ^ (8 - 8)) []).length = 13; rw [List.length_append, hexN_len]; rfl
      have hcat : ¬ 9223372036854775807 < T.size + 1 := by omega
      rw [e8] at hT
      have hTX : T ++ (⟨#[10]⟩ : ByteArray) = X := by rw [← hT, ← HX.out]; exact cat_list _ [10]
      clear hT e8
      have B3a := Lib.hid (B3.out.trans (((Below.refl w3.heap.size w3).alloc (Nat.le_refl _) (.cells #[.int .i64 i0, .int .i64 i1, .int .i64 i2, .int .i64 i3, .int .i32 i4] 27)).mono B3.out.size))
      clear B3
      cases ok with
      | false =>
        have hLX : L = X := by rw [← HL.out, ← HX.out, lineL_no HO.out]
        subst hLX
        go_wp2
        go_ret
        exact ⟨rfl, B3a.out⟩
      | true =>
        have hv : vld ⟨i0, i1, i2, i3, i4⟩ = true := by rw [← HI.out]; unfold decR; rw [if_pos HO.out]; exact decOk_vld HO.out
        have hdi : decI w = ⟨i0, i1, i2, i3, i4⟩ := by rw [← HI.out]; unfold decR; rw [if_pos HO.out]
        have e1 : fmtS ⟨i0, i1, i2, i3, i4⟩ = txt ⟨i0, i1, i2, i3, i4⟩ := by unfold fmtS; rw [if_pos hv]
        have e2 : fmtE ⟨i0, i1, i2, i3, i4⟩ = 0 := by unfold fmtE; rw [if_pos hv]
        rw [e1, e2] at F
        have hlen := lineL_len w
        rw [lineL_ok HO.out, hdi] at hlen
        have hS : txt ⟨i0, i1, i2, i3, i4⟩ ++ (⟨#[10]⟩ : ByteArray) = L := by rw [← HL.out, lineL_ok HO.out, hdi, ← cat_list]
        obtain ⟨S, hSx⟩ : ∃ S : ByteArray, txt ⟨i0, i1, i2, i3, i4⟩ = S := ⟨_, rfl⟩
        rw [hSx] at F hS hlen
        have hSs : S.size ≤ 36 := by rw [Lib.size_eq] at *; exact hlen
        have hcat2 : ¬ 9223372036854775807 < S.size + 1 := by omega
        clear hSx hlen e1 e2 hv hdi
        have H1 := Lib.hid (H.out rfl)
        clear H
        go_wp2_with fail
        refine (F.out _ (E.out.later B3a.out)).mono ?_
        rintro e w4 ⟨rfl, hb⟩
        have B4 := Lib.hid (B3a.out.trans (hb.mono B3a.out.size))
        clear hb B3a F
        go_wp2_with fail
        refine (H1.out _ (E.out.later B4.out)).mono ?_
        rintro e w5 ⟨rfl, hb⟩
        have B5 := Lib.hid (B4.out.trans (hb.mono B4.out.size))
        clear hb B4 H1
        go_wp2
        go_ret
        exact ⟨rfl, B5.out⟩
end Go.Proofs.YtihnglgknncgpaaGreatDoor.Asm
