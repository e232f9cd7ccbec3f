/- The reference's Line, Put and one, walked. -/
import Derived.Test.YtihnglgknncgpaaGreatDoorRfC
namespace Go.Proofs.YtihnglgknncgpaaGreatDoor.Asm
open Go Go.RowKit Go.Proofs.YtihnglgknncgpaaGreatDoor.PAsmEveryWordHasOneLine Go.Proofs.YtihnglgknncgpaaGreatDoorW.PrintWords Go.Proofs.YtihnglgknncgpaaGreatDoorW.PrintLast Go.Proofs.YtihnglgknncgpaaGreatDoorW.PrintMore Go.Proofs.YtihnglgknncgpaaGreatDoor.Bm Go.Proofs.YtihnglgknncgpaaGreatDoor.Isa
set_option linter.unusedVariables false
set_option linter.unusedSimpArgs false
/-! ### The reference's Line and Put -/
attribute [local go_sem] conv_go convOf_some
theorem oneB_byte (c : UInt8) : oneB (c.toNat : Int) = ⟨#[c]⟩ := by
  unfold oneB
  simp
theorem hr_index (w : World) : ∀ n : Nat, n < 16 → (Instr.index 9 (.string ⟨#[48, 49, 50, 51, 52, 53, 54, 55, 56, 57, 97, 98, 99, 100, 101, 102]⟩) (.int .i64 (n : Int))).run Tryz.prog w = .ok (.int .u8 ((hexd n).toNat : Int)) w
  | 0, _ => by kernel_rfl
  | 1, _ => by kernel_rfl
  | 2, _ => by kernel_rfl
  | 3, _ => by kernel_rfl
  | 4, _ => by kernel_rfl
  | 5, _ => by kernel_rfl
  | 6, _ => by kernel_rfl
  | 7, _ => by kernel_rfl
  | 8, _ => by kernel_rfl
  | 9, _ => by kernel_rfl
  | 10, _ => by kernel_rfl
  | 11, _ => by kernel_rfl
  | 12, _ => by kernel_rfl
  | 13, _ => by kernel_rfl
  | 14, _ => by kernel_rfl
  | 15, _ => by kernel_rfl
  | n + 16, h => absurd h (by omega)
set_option maxRecDepth 100000 in
set_option maxHeartbeats 4000000 in
theorem rline_hex (w : Nat) (hw : w < 2 ^ 32) (W : World) (hd : decOk w = false) :
    Calls Tryz.prog 40 #[.int .u32 (w : Int)] W fun e w' => e = .returned (.string ⟨([119, 111, 114, 100, 32] ++ hexN 8 w [] ++ [10]).toArray⟩) ∧ Below W.heap.size W w' := by
  have D := rdec_any w W hw
  rw [show decR w = nilI from by unfold decR; rw [hd]; rfl, hd] at D
  clear hd
  simp only [nilI, In.v] at D
  go_enter Tryz.func40, Tryz.ntmps40
  go_wp2_with fail
  refine D.mono ?_
  rintro e w1 ⟨rfl, hb⟩
  have B1 := Lib.hid hb
  clear hb D
  go_wp2
  go_loopw [0, 8, 9] (fun vw vs vi wr => ∃ (k x : Nat) (acc : List UInt8), k ≤ 8 ∧ x < 2 ^ 32 ∧ vw = .int .u32 (x : Int) ∧ vs = .string ⟨acc.toArray⟩ ∧ vi = .int .i64 (k : Int) ∧ Hid (hexN (8 - k) x acc = hexN 8 w [] ∧ acc.length = k) ∧ Hid (Below W.heap.size W wr)) (fun _ _ vi _ => 8 - (intOf vi).toNat)
  case atStart => exact ⟨0, w, [], by omega, hw, rfl, rfl, rfl, Lib.hid ⟨rfl, rfl⟩, Lib.hid (B1.out.alloc B1.out.size _)⟩
  case round =>
    obtain ⟨k, x, acc, hk, hx, rfl, rfl, rfl, hh, hB⟩ := hrel
    by_cases hk8 : k < 8
    · have h1 := fun w => hr_index w (x % 16) (by omega)
      obtain ⟨c, hc⟩ : ∃ c, hexd (x % 16) = c := ⟨_, rfl⟩
      rw [hc] at h1
      have e1 : ((x % 16 : Nat) : Int) = (x : Int) % 16 := by omega
      rw [e1] at h1
      clear e1
      have hh2 : Hid (hexN (8 - (k + 1)) (x / 16) (c :: acc) = hexN 8 w [] ∧ (c :: acc).length = k + 1) := Lib.hid ⟨by
        rw [← hh.out.1, show 8 - k = (8 - (k + 1)) + 1 by omega, hexN, hc], by rw [List.length_cons, hh.out.2]⟩
      have hob := oneB_byte c
      have ha : ¬ 9223372036854775807 < 1 + acc.length := by have := hh.out.2; omega
      have hBs : W.heap.size ≤ wr.heap.size := hB.out.size
      clear hc hh
      go_wp2
      go_roundw
      case rel => exact ⟨k + 1, x / 16, c :: acc, by omega, by omega, by go_num, by rw [cat_tag], by go_num, hh2, Lib.hid (hB.out.alloc hBs _)⟩
      case measure => simp [intOf]; omega
    · obtain rfl : k = 8 := by omega
      have ha : ¬ 9223372036854775807 < 5 + acc.length := by have := hh.out.2; omega
      have hb2 : ¬ 9223372036854775807 < 5 + acc.length + 1 := by have := hh.out.2; omega
      have hacc : Hid (acc = hexN 8 w []) := Lib.hid hh.out.1
      clear hh
      go_wp2
      go_ret
      exact ⟨by rw [← hacc.out]; exact congrArg (fun s => Ending.returned (Value.string s)) ((congrArg (· ++ (⟨#[10]⟩ : ByteArray)) (cat_word acc)).trans (cat_bytes _ [10])), hB.out⟩
set_option maxRecDepth 100000 in
set_option maxHeartbeats 4000000 in
theorem rline_ok (w : Nat) (hw : w < 2 ^ 32) (W : World) (hd : decOk w = true) :
    Calls Tryz.prog 40 #[.int .u32 (w : Int)] W fun e w' => e = .returned (.string (txt (decI w) ++ ⟨#[10]⟩)) ∧ Below W.heap.size W w' := by
  have D := rdec_any w W hw
  have hv : vld (decI w) = true := by
    unfold decOk at hd
    exact (Bool.and_eq_true _ _ ▸ hd).1
  rw [show decR w = decI w from by unfold decR; rw [hd]; rfl, hd] at D
  have F := Lib.hid (fun W => text_ref (decI w) W (vld_small hv))
  unfold fmtS fmtE at F
  rw [if_pos hv, if_pos hv] at F
  have hlen := lineL_len w
  unfold lineL at hlen
  rw [if_pos hd] at hlen
  clear hd hv
  obtain ⟨S, hS⟩ : ∃ S, txt (decI w) = S := ⟨_, rfl⟩
  rw [hS] at F hlen ⊢
  clear hS
  have hcat : ¬ 9223372036854775807 < S.size + 1 := by rw [Lib.size_eq]; omega
  obtain ⟨i, hi⟩ : ∃ i, decI w = i := ⟨_, rfl⟩
  rw [hi] at D F
  clear hi
  obtain ⟨i0, i1, i2, i3, i4⟩ := i
  simp only [In.v] at D F
  go_enter Tryz.func40, Tryz.ntmps40
  go_wp2_with fail
  refine D.mono ?_
  rintro e w1 ⟨rfl, hb⟩
  have B1 := Lib.hid hb
  clear hb D
  go_wp2_with fail
  refine (F.out _).mono ?_
  rintro e w2 ⟨rfl, hb⟩
  have B2 := Lib.hid (B1.out.trans ((((Below.refl w1.heap.size w1).alloc (Nat.le_refl _) _).trans (hb.mono (by simp))).mono B1.out.size))
  clear hb F
  go_wp2
  go_ret
  exact ⟨rfl, B2.out⟩
theorem rline_ref (w : Nat) (hw : w < 2 ^ 32) (W : World) :
    Calls Tryz.prog 40 #[.int .u32 (w : Int)] W fun e w' => e = .returned (.string ⟨(lineL w ++ [10]).toArray⟩) ∧ Below W.heap.size W w' := by
  unfold lineL
  cases hd : decOk w with
  | false => rw [if_neg (by decide)]; exact rline_hex w hw W hd
  | true =>
    rw [if_pos rfl]
    have e : (⟨((txt (decI w)).data.toList ++ [10]).toArray⟩ : ByteArray) = txt (decI w) ++ ⟨#[10]⟩ := (cat_bytes (txt (decI w)).data.toList [10]).symm
    rw [e]
    exact rline_ok w hw W hd
set_option maxRecDepth 100000 in
set_option maxHeartbeats 4000000 in
/-- The reference's Put. -/
theorem put_ref (ws : List Nat) (hl : ws.length ≤ 1000000) (p : Option Addr) (c : Nat) (W : World) (hp : Ws W p ws) :
    Calls Tryz.prog 14 #[.slice p ws.length c] W fun e w' => e = .returned (.string ⟨(disL ws).toArray⟩) ∧ Below W.heap.size W w' := by
  have LN := Lib.hid (fun w hw W => rline_ref w hw W)
  have P := Lib.hid hp
  clear hp
  go_enter Tryz.func14, Tryz.ntmps14
  go_wp2_with fail
  go_loopw [3, 4] (fun vs vi wr => ∃ k : Nat, k ≤ ws.length ∧ vi = .int .i64 (k : Int) ∧ vs = .string ⟨(disL (ws.take k)).toArray⟩ ∧ Hid (Below W.heap.size W wr)) (fun _ vi _ => ws.length - (intOf vi).toNat)
  case atStart => exact ⟨0, by omega, rfl, rfl, Lib.hid (by repeat (first | exact Below.refl _ _ | refine Below.drew ?_ | refine bdrew ?_ _))⟩
  case round =>
    obtain ⟨k, hk, rfl, rfl, hB⟩ := hrel
    by_cases hkn : k < ws.length
    · obtain ⟨x, hx⟩ : ∃ x, ws[k]? = some x := ⟨ws[k], List.getElem?_eq_getElem hkn⟩
      obtain ⟨hx32, b, rfl, hbl, hc⟩ := P.out k x hx
      have hc1 := (hB.out.cell (p := b.add k) hbl).trans hc
      have htk : Hid (disL (ws.take (k + 1)) = disL (ws.take k) ++ (lineL x ++ [10])) := Lib.hid (by rw [List.take_add_one, hx, Option.toList_some, disL_snoc])
      have hl1 : (disL (ws.take k)).length ≤ 37 * 1000000 := by have := disL_len (ws.take k); rw [List.length_take] at this; omega
      have hl2 : (lineL x).length ≤ 36 := lineL_len x
      have L := LN.out x hx32 wr
      obtain ⟨D, hD⟩ : ∃ D, disL (ws.take k) = D := ⟨_, rfl⟩
      obtain ⟨X, hX⟩ : ∃ X, lineL x ++ [10] = X := ⟨_, rfl⟩
      have hl3 : X.length ≤ 37 := by rw [← hX, List.length_append]; simp; omega
      rw [hD] at htk hl1
      simp only [hD]
      rw [hX] at L htk
      have ha : ¬ 9223372036854775807 < D.length + X.length := by omega
      clear hc hD hX hx hl2
      have q1 : (k : Int) < (ws.length : Int) := by omega
      have q2 : (0 : Int) ≤ (k : Int) := by omega
      go_wp2_with fail
      refine L.mono ?_
      rintro e w2 ⟨rfl, hb⟩
      have B2 := Lib.hid (hB.out.trans (hb.mono hB.out.size))
      clear L hb hc1
      go_wp2
      go_roundw
      case rel => exact ⟨k + 1, by omega, by go_num, by rw [htk.out]; exact congrArg Value.string (cat_bytes D X), B2⟩
      case measure => simp [intOf]; omega
    · obtain rfl : k = ws.length := by omega
      have hl : ws.take ws.length = ws := List.take_length
      simp only [hl]
      go_wp2
      go_ret
      exact ⟨rfl, hB.out⟩
/-! ### The reference's one -/
attribute [local go_sem] conv_go convOf_some
/-- The digit that the reference reads. -/
def lxd (c : UInt8) : Nat := if 97 ≤ c.toNat then (c.toNat + 9) % 16 else c.toNat % 16
def lenN : List UInt8 → Nat → Nat
  | [], n => n
  | c :: l, n => lenN l ((16 * n + lxd c) % 4294967296)
theorem lxd_hexd : ∀ d : Nat, d < 16 → lxd (hexd d) = d := by decide +kernel
theorem lenN_hex : ∀ (k w : Nat) (acc : List UInt8), k ≤ 8 → lenN (hexN k w acc) 0 = lenN acc (w % 16 ^ k)
  | 0, w, acc, _ => by simp [hexN, Nat.mod_one]
  | k + 1, w, acc, h => by
    rw [hexN, lenN_hex k (w / 16) _ (by omega), lenN, lxd_hexd _ (by omega)]
    have e : 16 * (w / 16 % 16 ^ k) + w % 16 = w % 16 ^ (k + 1) := by
      rw [Nat.pow_succ, Nat.mul_comm (16 ^ k) 16, Nat.mod_mul]
      omega
    have hlt : w % 16 ^ (k + 1) < 4294967296 := by
      have h1 : w % 16 ^ (k + 1) < 16 ^ (k + 1) := Nat.mod_lt _ (Nat.pow_pos (by decide))
      have h2 : 16 ^ (k + 1) ≤ 16 ^ 8 := Nat.pow_le_pow_right (by decide) h
      omega
    rw [e, Nat.mod_eq_of_lt hlt]
theorem lenN_lt : ∀ (l : List UInt8) (n : Nat), n < 4294967296 → lenN l n < 4294967296
  | [], _, h => h
  | c :: l, n, _ => lenN_lt l _ (Nat.mod_lt _ (by decide))
theorem lineL_yes {w : Nat} (h : decOk w = true) : lineL w = (txt (decI w)).data.toList := by unfold lineL; rw [if_pos h]
theorem lineL_not {w : Nat} (h : decOk w = false) : lineL w = [119, 111, 114, 100, 32] ++ hexN 8 w [] := by unfold lineL; rw [if_neg (by rw [h]; decide)]
theorem lenN_drop {l : List UInt8} {k : Nat} {c : UInt8} (h : l[k]? = some c) (n : Nat) : lenN (l.drop k) n = lenN (l.drop (k + 1)) ((16 * n + lxd c) % 4294967296) := by
  have hk : k < l.length := (List.getElem?_eq_some_iff.1 h).1
  have hc : l[k] = c := (List.getElem?_eq_some_iff.1 h).2
  rw [List.drop_eq_getElem_cons hk, hc]
  rfl
theorem ext_line (x : List UInt8) : (⟨(x ++ [10]).toArray⟩ : ByteArray).extract 0 x.length = ⟨x.toArray⟩ := by
  rw [ext_list, List.drop_zero, Nat.sub_zero, List.take_left' rfl]
  rfl
theorem lxd_lo : ∀ c : UInt8, c.toNat < 97 → (((c.toNat : Int) - 48).tmod 16 + 16) % 16 = (lxd c : Nat) := by
  intro c h
  unfold lxd
  rw [if_neg (by omega)]
  by_cases h48 : 48 ≤ c.toNat
  · rw [Int.tmod_eq_emod_of_nonneg (by omega)]; omega
  · have e : ((c.toNat : Int) - 48) = -(48 - (c.toNat : Int)) := by omega
    rw [e, Int.neg_tmod, Int.tmod_eq_emod_of_nonneg (by omega)]; omega
theorem lxd_hi : ∀ c : UInt8, ¬ c.toNat < 97 → (((c.toNat : Int) - 87).tmod 16 + 16) % 16 = (lxd c : Nat) := by
  intro c h
  unfold lxd
  rw [if_pos (by omega), Int.tmod_eq_emod_of_nonneg (by omega)]
  omega
/-- A line that is no instruction is the hexadecimal form of the word that the reference reads, if it is a line at all. -/
theorem oneL_hex {x : List UInt8} (hp : ¬ parseOk ⟨x.toArray⟩) : oneL x = if x.length = 13 ∧ lineL (lenN (x.drop 5) 0) = x then some (lenN (x.drop 5) 0) else none := by
  have hw : ∀ u, lineL u = x → decOk u = false ∧ x = [119, 111, 114, 100, 32] ++ hexN 8 u [] := by
    intro u hu
    cases hd : decOk u with
    | true =>
      refine absurd ?_ hp
      rw [lineL_yes hd] at hu
      have e : (⟨x.toArray⟩ : ByteArray) = txt (decI u) := by rw [← hu]
      rw [e]
      unfold parseOk
      rw [read_txt (decOk_vld hd)]
      exact ⟨decOk_vld hd, rfl⟩
    | false => exact ⟨rfl, by rw [← hu, lineL_not hd]⟩
  have hread : ∀ u, u < 4294967296 → x = [119, 111, 114, 100, 32] ++ hexN 8 u [] → x.length = 13 ∧ lenN (x.drop 5) 0 = u ∧ wordU ⟨x.toArray⟩ = .ok u := by
    intro u hu he
    subst he
    refine ⟨by rw [List.length_append, hexN_len]; rfl, ?_, ?_⟩
    · rw [show List.drop 5 ([119, 111, 114, 100, 32] ++ hexN 8 u []) = hexN 8 u [] from rfl, lenN_hex 8 u [] (by omega)]
      show u % 16 ^ 8 = u
      omega
    · have ht : Lib.trimPrefix ([119, 111, 114, 100, 32] ++ hexN 8 u []) [119, 111, 114, 100, 32] = hexN 8 u [] := by
        unfold Lib.trimPrefix
        rw [if_pos (by simp [Lib.hasPrefix])]
        exact List.drop_left' (by simp)
      have hn : hexN 8 u [] ≠ [] := fun h => by have := hexN_len 8 u []; rw [h] at this; simp at this
      show puR (Lib.trimPrefix ([119, 111, 114, 100, 32] ++ hexN 8 u []) [119, 111, 114, 100, 32]) = _
      rw [ht, puR, if_neg hn, pu_hex 8 u (by omega) (by omega)]
  unfold oneL oneP
  rw [if_neg hp]
  by_cases hc : x.length = 13 ∧ lineL (lenN (x.drop 5) 0) = x
  · rw [if_pos hc]
    obtain ⟨h1, h2⟩ := hw _ hc.2
    have hlt : lenN (x.drop 5) 0 < 4294967296 := lenN_lt _ _ (by omega)
    rw [(hread _ hlt h2).2.2]
    simp only []
    rw [if_pos hc.2]
  · rw [if_neg hc]
    cases hu : wordU ⟨x.toArray⟩ with
    | ok u =>
      simp only []
      rw [if_neg]
      intro he
      have he' : lineL u = x := he
      obtain ⟨h1, h2⟩ := hw u he'
      have hlt : u ≤ 4294967295 := puR_lt hu
      obtain ⟨r1, r2, _⟩ := hread u (by omega) h2
      exact hc ⟨r1, by rw [r2]; exact he'⟩
    | _ => rfl
theorem tmod16 (v : Int) : -16 < v.tmod 16 ∧ v.tmod 16 < 16 := by
  by_cases h : 0 ≤ v
  · rw [Int.tmod_eq_emod_of_nonneg h]; omega
  · have e : v = -(-v) := by omega
    rw [e, Int.neg_tmod, Int.tmod_eq_emod_of_nonneg (by omega)]; omega
set_option maxRecDepth 100000 in
set_option maxHeartbeats 4000000 in
theorem rone_yes (x : List UInt8) (hl : x.length ≤ 1000000) (W : World) (hp : parseOk ⟨x.toArray⟩) (u : Nat) (hu : encW (readP ⟨x.toArray⟩) = u) :
    Calls Tryz.prog 39 #[.string ⟨(x ++ [10]).toArray⟩] W fun e w' => e = .returned (.tuple #[.int .u32 (u : Int), .bool true]) ∧ Below W.heap.size W w' := by
  have P := Lib.hid (fun W => rparse_ref x W hl)
  have e1 : parseI ⟨x.toArray⟩ = readP ⟨x.toArray⟩ := by unfold parseI; rw [if_pos hp]
  have e2 : parseE ⟨x.toArray⟩ = 0 := by unfold parseE; rw [if_pos hp]
  rw [e1, e2] at P
  obtain ⟨i, hi⟩ : ∃ i, readP ⟨x.toArray⟩ = i := ⟨_, rfl⟩
  have hv : vld i = true := by rw [← hi]; exact hp.1
  have ht : txt i = ⟨x.toArray⟩ := by rw [← hi]; exact hp.2
  rw [hi] at P hu
  have R := Lib.hid (fun W => renc_any i W (vld_small hv))
  rw [hv, show encR i = u from by unfold encR; rw [if_pos hv]; exact hu] at R
  have hu32 : u < 2 ^ 32 := by rw [← hu]; exact encW_lt hv
  have hln : lineL u = x := by
    have hd : decI u = i := by rw [← hu]; exact dec_enc hv
    have ho : decOk u = true := by unfold decOk; rw [hd, hv, hu]; simp
    rw [lineL_yes ho, hd, ht]
  have L := Lib.hid (fun W => rline_ref u hu32 W)
  rw [hln] at L
  have hex := ext_line x
  obtain ⟨S, hS⟩ : ∃ S : ByteArray, ⟨(x ++ [10]).toArray⟩ = S := ⟨_, rfl⟩
  rw [hS] at hex L ⊢
  have hsz : S.size = x.length + 1 := by rw [← hS]; show (x ++ [10]).length = _; simp
  obtain ⟨n, hn⟩ : ∃ n, x.length = n := ⟨_, rfl⟩
  rw [hn] at hsz hex hl
  obtain ⟨X, hX⟩ : ∃ X : ByteArray, ⟨x.toArray⟩ = X := ⟨_, rfl⟩
  rw [hX] at P hex
  clear e1 e2 hi hv ht hu hu32 hln hS hn hX hp
  obtain ⟨i0, i1, i2, i3, i4⟩ := i
  simp only [In.v] at P R
  have q0 : ¬ (n : Int) + 1 = 0 := by omega
  go_enter Tryz.func39, Tryz.ntmps39
  go_wp2_with fail
  refine (P.out _).mono ?_
  rintro e w1 ⟨rfl, hb⟩
  have B1 := Lib.hid hb
  clear hb P
  go_wp2_with fail
  refine (R.out _).mono ?_
  rintro e w2 ⟨rfl, hb⟩
  have B2 := Lib.hid (B1.out.trans ((((Below.refl w1.heap.size w1).alloc (Nat.le_refl _) _).trans (hb.mono (by simp))).mono B1.out.size))
  clear hb R B1
  go_wp2_with fail
  refine (L.out _).mono ?_
  rintro e w3 ⟨rfl, hb⟩
  have B3 := Lib.hid (B2.out.trans (hb.mono B2.out.size))
  clear hb L B2
  go_wp2
  go_ret2
  exact ⟨rfl, B3.out⟩
set_option maxRecDepth 100000 in
set_option maxHeartbeats 4000000 in
theorem rone_short (x : List UInt8) (hl : x.length ≤ 1000000) (W : World) (hp : ¬ parseOk ⟨x.toArray⟩) (h13 : x.length ≠ 13) :
    Calls Tryz.prog 39 #[.string ⟨(x ++ [10]).toArray⟩] W fun e w' => e = .returned (.tuple #[.int .u32 0, .bool false]) ∧ Below W.heap.size W w' := by
  have P := Lib.hid (fun W => rparse_ref x W hl)
  have e1 : parseI ⟨x.toArray⟩ = nilI := by unfold parseI; rw [if_neg hp]
  have e2 : parseE ⟨x.toArray⟩ = 2 := by unfold parseE; rw [if_neg hp]
  rw [e1, e2] at P
  have hex := ext_line x
  obtain ⟨S, hS⟩ : ∃ S : ByteArray, ⟨(x ++ [10]).toArray⟩ = S := ⟨_, rfl⟩
  rw [hS] at hex ⊢
  have hsz : S.size = x.length + 1 := by rw [← hS]; show (x ++ [10]).length = _; simp
  obtain ⟨n, hn⟩ : ∃ n, x.length = n := ⟨_, rfl⟩
  rw [hn] at hsz hex hl h13
  obtain ⟨X, hX⟩ : ∃ X : ByteArray, ⟨x.toArray⟩ = X := ⟨_, rfl⟩
  rw [hX] at P hex
  clear e1 e2 hS hn hX hp
  simp only [In.v, nilI] at P
  have q0 : ¬ (n : Int) + 1 = 0 := by omega
  have q1 : ¬ (n : Int) + 1 = 14 := by omega
  go_enter Tryz.func39, Tryz.ntmps39
  go_wp2_with fail
  refine (P.out _).mono ?_
  rintro e w1 ⟨rfl, hb⟩
  have B1 := Lib.hid hb
  clear hb P
  go_wp2
  go_ret2
  exact ⟨rfl, B1.out.alloc B1.out.size _⟩
set_option maxRecDepth 100000 in
set_option maxHeartbeats 4000000 in
theorem rone_hex (x : List UInt8) (W : World) (hp : ¬ parseOk ⟨x.toArray⟩) (h13 : x.length = 13) (v : Nat) (hv : lenN (x.drop 5) 0 = v) (ok : Bool) (hok : decide (lineL v = x) = ok) :
    Calls Tryz.prog 39 #[.string ⟨(x ++ [10]).toArray⟩] W fun e w' => e = .returned (.tuple #[.int .u32 (v : Int), .bool ok]) ∧ Below W.heap.size W w' := by
  have P := Lib.hid (fun W => rparse_ref x W (by omega))
  have e1 : parseI ⟨x.toArray⟩ = nilI := by unfold parseI; rw [if_neg hp]
  have e2 : parseE ⟨x.toArray⟩ = 2 := by unfold parseE; rw [if_neg hp]
  rw [e1, e2] at P
  have hvlt : v < 4294967296 := by rw [← hv]; exact lenN_lt _ _ (by omega)
  have L := Lib.hid (fun W => rline_ref v hvlt W)
  have hex := ext_line x
  have hget := Lib.hid (fun k c h => ba_get (x ++ [10]) k c h)
  obtain ⟨S, hS⟩ : ∃ S : ByteArray, ⟨(x ++ [10]).toArray⟩ = S := ⟨_, rfl⟩
  have hsz : S.size = 14 := by rw [← hS]; show (x ++ [10]).length = _; simp [h13]
  obtain ⟨Z, hZ⟩ : ∃ Z : ByteArray, ⟨(lineL v ++ [10]).toArray⟩ = Z := ⟨_, rfl⟩
  have hzs : Hid ((Z.toList == S.toList) = ok) := Lib.hid (by
    rw [← hok, ← hZ, ← hS]
    by_cases h : lineL v = x
    · rw [h, decide_eq_true rfl]; simp
    · rw [decide_eq_false h]
      refine toList_beq (fun e => h ?_)
      have := congrArg (fun b : ByteArray => b.data.toList) e
      simpa using this)
  rw [hZ] at L
  rw [hS] at hex hget ⊢
  rw [h13] at hex
  obtain ⟨X, hX⟩ : ∃ X : ByteArray, ⟨x.toArray⟩ = X := ⟨_, rfl⟩
  rw [hX] at P hex
  have H13 := Lib.hid h13
  have HV := Lib.hid hv
  clear e1 e2 hS hX hp h13 hok hZ hv
  simp only [In.v, nilI] at P
  go_enter Tryz.func39, Tryz.ntmps39
  go_wp2_with fail
  refine (P.out _).mono ?_
  rintro e w1 ⟨rfl, hb⟩
  have B1 := Lib.hid hb
  clear hb P
  go_wp2_with fail
  go_loopw [8, 9] (fun vw vi wr => ∃ (k n : Nat), vw = .int .u32 (n : Int) ∧ vi = .int .i64 (k : Int) ∧ 5 ≤ k ∧ k ≤ 13 ∧ n < 4294967296 ∧ Hid (lenN (x.drop k) n = v) ∧ Hid (Below W.heap.size W wr)) (fun _ vi _ => 13 - (intOf vi).toNat)
  case atStart => exact ⟨5, 0, rfl, rfl, by omega, by omega, by omega, HV, Lib.hid (B1.out.alloc B1.out.size _)⟩
  case round =>
    obtain ⟨k, n, rfl, rfl, hk5, hk, hn, hN, hB⟩ := hrel
    by_cases hk13 : k < 13
    · obtain ⟨c, hc⟩ : ∃ c, x[k]? = some c := ⟨x[k]'(by rw [H13.out]; exact hk13), List.getElem?_eq_getElem _⟩
      have hlt : k < S.size := by omega
      have hg : S[k]'hlt = c := by
        have h1 := hget.out k c (by rw [List.getElem?_append_left (by rw [H13.out]; exact hk13)]; exact hc)
        exact Option.some.inj ((getElem?_pos S k hlt).symm.trans h1)
      have hN2 : Hid (lenN (x.drop (k + 1)) ((16 * n + lxd c) % 4294967296) = v) := Lib.hid ((lenN_drop hc n).symm.trans hN.out)
      have hd16 : lxd c < 16 := by unfold lxd; split <;> omega
      have q1 : (k : Int) < 13 := by omega
      have hc256 : c.toNat < 256 := c.toNat_lt
      clear hc hN
      by_cases h97 : c.toNat < 97
      · have p1 : ¬ (97 : Int) ≤ (c.toNat : Int) := by omega
        have hl := lxd_lo c h97
        obtain ⟨r, hr⟩ : ∃ r, ((c.toNat : Int) - 48).tmod 16 = r := ⟨_, rfl⟩
        have hr2 : -16 < r ∧ r < 16 := by rw [← hr]; exact tmod16 _
        rw [hr] at hl
        go_wp2
        exact ⟨⟨k + 1, (16 * n + lxd c) % 4294967296, by congr 1; omega, by congr 1, by omega, by omega, by omega, hN2, hB⟩, by simp [intOf]; omega⟩
      · have p1 : (97 : Int) ≤ (c.toNat : Int) := by omega
        have hl := lxd_hi c h97
        obtain ⟨r, hr⟩ : ∃ r, ((c.toNat : Int) - 87).tmod 16 = r := ⟨_, rfl⟩
        have hr2 : -16 < r ∧ r < 16 := by rw [← hr]; exact tmod16 _
        rw [hr] at hl
        go_wp2
        exact ⟨⟨k + 1, (16 * n + lxd c) % 4294967296, by congr 1; omega, by congr 1, by omega, by omega, by omega, hN2, hB⟩, by simp [intOf]; omega⟩
    · obtain rfl : k = 13 := by omega
      obtain rfl : n = v := by
        have := hN.out
        rw [List.drop_eq_nil_of_le (by rw [H13.out]; omega)] at this
        exact this
      have HZ := hzs.out
      clear hN
      go_wp2_with fail
      refine (L.out _).mono ?_
      rintro e w3 ⟨rfl, hb⟩
      have B3 := Lib.hid (hB.out.trans (hb.mono hB.out.size))
      clear hb L
      go_wp2
      go_ret2
      exact ⟨rfl, B3.out⟩
/-- The reference's one. -/
theorem rone_ref (x : List UInt8) (hl : x.length ≤ 1000000) (W : World) :
    Calls Tryz.prog 39 #[.string ⟨(x ++ [10]).toArray⟩] W fun e w' => (∃ n : Nat, n < 2 ^ 32 ∧ e = .returned (.tuple #[.int .u32 (n : Int), .bool (oneL x).isSome]) ∧ ((oneL x).isSome = true → oneL x = some n)) ∧ Below W.heap.size W w' := by
  by_cases hp : parseOk ⟨x.toArray⟩
  · have ho : oneL x = some (encW (readP ⟨x.toArray⟩)) := by unfold oneL oneP; rw [if_pos hp]
    refine (rone_yes x hl W hp _ rfl).mono ?_
    rintro e w' ⟨rfl, hb⟩
    exact ⟨⟨_, encW_lt hp.1, by rw [ho]; rfl, fun _ => ho⟩, hb⟩
  · have ho := oneL_hex hp
    by_cases h13 : x.length = 13
    · have hvlt : lenN (x.drop 5) 0 < 4294967296 := lenN_lt _ _ (by omega)
      refine (rone_hex x W hp h13 _ rfl _ rfl).mono ?_
      rintro e w' ⟨rfl, hb⟩
      refine ⟨⟨_, hvlt, ?_, fun h => ?_⟩, hb⟩
      · rw [ho]
        by_cases hc : lineL (lenN (x.drop 5) 0) = x
        · rw [if_pos ⟨h13, hc⟩, decide_eq_true hc]; rfl
        · rw [if_neg (fun h => hc h.2), decide_eq_false hc]; rfl
      · rw [ho] at h ⊢
        split at h
        · rename_i hc; rw [if_pos hc]
        · cases h
    · rw [if_neg (fun h => h13 h.1)] at ho
      refine (rone_short x hl W hp h13).mono ?_
      rintro e w' ⟨rfl, hb⟩
      exact ⟨⟨0, by decide, by rw [ho]; rfl, fun h => by rw [ho] at h; cases h⟩, hb⟩
end Go.Proofs.YtihnglgknncgpaaGreatDoor.Asm
