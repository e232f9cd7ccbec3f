/- gaolerref28.dec, Hex, num and digit, walked. -/
import Derived.Test.YtnfkimhhgflfjaaDoorR4
namespace Go.Proofs.YtnfkimhhgflfjaaDoor.Rep
open Go Go.RowKit Go.Shelf
set_option linter.unusedVariables false
set_option linter.unusedSimpArgs false
/-! ### gaolerref28.dec, Hex, num, digit, walked -/
/-- One byte, two bytes. -/
def oneB (x : Int) : ByteArray := ⟨#[UInt8.ofNat x.toNat]⟩
def twoB (x y : Int) : ByteArray := ⟨#[UInt8.ofNat x.toNat, UInt8.ofNat y.toNat]⟩
noncomputable def convOf (W : World) (b c : Nat) : Option Value → Result Value
  | some (.int .u8 x) => .ok (.string (oneB x)) W
  | _ => (convert 27 9 (.slice (some ⟨b, 0, none⟩) 1 c)).run Tryd.prog W
theorem convOf_some (W : World) (b c : Nat) (x : Int) : convOf W b c (some (.int .u8 x)) = .ok (.string (oneB x)) W := rfl
theorem conv_go (W : World) (b c : Nat) : (convert 27 9 (.slice (some ⟨b, 0, none⟩) 1 c)).run Tryd.prog W = convOf W b c (W.cell? ⟨b, 0, none⟩) := by
  unfold convOf
  split
  · rename_i x h
    rw [run_convert_bytes_string W 27 9 5 (some ⟨b, 0, none⟩) 1 c Tryd.underlying27 Tryd.underlying5 Tryd.underlying9]
    have hl := run_loadCells_list (P := Tryd.prog) W ⟨b, 0, none⟩ [Value.int .u8 x] (fun j v hj => by
      match j, hj with
      | 0, hj => simp at hj; subst hj; exact h
      | j + 1, hj => simp at hj)
    rw [run_bytesToString W ⟨b, 0, none⟩ 1 c [x] hl]
    rfl
  · rfl
noncomputable def convTwo (W : World) (b c : Nat) : Option Value → Option Value → Result Value
  | some (.int .u8 x), some (.int .u8 y) => .ok (.string (twoB x y)) W
  | _, _ => (convert 27 9 (.slice (some ⟨b, 0, none⟩) 2 c)).run Tryd.prog W
theorem convTwo_some (W : World) (b c : Nat) (x y : Int) : convTwo W b c (some (.int .u8 x)) (some (.int .u8 y)) = .ok (.string (twoB x y)) W := rfl
theorem conv_two (W : World) (b c : Nat) : (convert 27 9 (.slice (some ⟨b, 0, none⟩) 2 c)).run Tryd.prog W = convTwo W b c (W.cell? ⟨b, 0, none⟩) (W.cell? ⟨b, 1, none⟩) := by
  unfold convTwo
  split
  · rename_i x y h h'
    rw [run_convert_bytes_string W 27 9 5 (some ⟨b, 0, none⟩) 2 c Tryd.underlying27 Tryd.underlying5 Tryd.underlying9]
    have hl := run_loadCells_list (P := Tryd.prog) W ⟨b, 0, none⟩ [Value.int .u8 x, Value.int .u8 y] (fun j v hj => by
      match j, hj with
      | 0, hj => simp at hj; subst hj; exact h
      | 1, hj => simp at hj; subst hj; exact h'
      | j + 2, hj => simp at hj)
    rw [run_bytesToString W ⟨b, 0, none⟩ 2 c [x, y] hl]
    rfl
  · rfl
attribute [local go_sem] conv_go convOf_some conv_two convTwo_some
theorem oneB_size (x : Int) : (oneB x).size = 1 := rfl
theorem twoB_size (x y : Int) : (twoB x y).size = 2 := rfl
theorem twoB_bytes (a b : UInt8) : twoB (a.toNat : Int) (b.toNat : Int) = ⟨#[a, b]⟩ := by
  unfold twoB
  simp
theorem dec_snoc (n : Nat) (h : ¬ n < 10) : (⟨(Lib.decDigits n).toArray⟩ : ByteArray) = ⟨(Lib.decDigits (n / 10)).toArray⟩ ++ oneB (48 + (n : Int) % 10) := by
  rw [Lib.decDigits, dif_neg h]
  have e : oneB (48 + (n : Int) % 10) = ⟨[UInt8.ofNat (48 + n % 10)].toArray⟩ := by
    unfold oneB
    have : (48 + (n : Int) % 10).toNat = 48 + n % 10 := by omega
    rw [this]
  rw [e, cat_bytes]
theorem wru64 {x : Int} (h1 : 0 ≤ x) (h2 : x ≤ 18446744073709551615) : IntKind.u64.wrap x = x := by rw [IntKind.wrap_u64]; omega
set_option maxRecDepth 100000 in
theorem dec_any (n : Nat) : ∀ (w : World), n < 18446744073709551616 → Calls Tryd.prog 20 #[.int .u64 (n : Int)] w fun e w' => e = .returned (.string ⟨(Lib.decDigits n).toArray⟩) ∧ Below w.heap.size w w' := by
  induction n using Nat.strongRecOn with
  | _ n ih =>
    intro w hn
    by_cases h : n < 10
    · have q2 : (n : Int) < 10 := by omega
      have q3 : IntKind.u64.wrap (48 + (n : Int)) = 48 + (n : Int) := wru64 (by omega) (by omega)
      have q4 : IntKind.u8.wrap (48 + (n : Int)) = 48 + (n : Int) := by rw [IntKind.wrap_u8]; omega
      have hres : (⟨(Lib.decDigits n).toArray⟩ : ByteArray) = oneB (48 + (n : Int)) := by rw [Lib.decDigits_one h]; rfl
      rw [hres]
      clear ih hres
      go_enter Tryd.func20, Tryd.ntmps20
      go_wp2
      go_ret
      exact ⟨rfl, (Below.refl _ w).alloc (Nat.le_refl _) _⟩
    · have q2 : ¬ (n : Int) < 10 := by omega
      have q3 : IntKind.u8.wrap (48 + (n : Int) % 10) = 48 + (n : Int) % 10 := by rw [IntKind.wrap_u8]; omega
      have hc := Lib.hid (fun w => ih (n / 10) (by omega) w (by omega))
      have hlen := dec_len (n / 10) (by omega)
      have hres := dec_snoc n h
      obtain ⟨X, hX⟩ : ∃ X : ByteArray, ⟨(Lib.decDigits (n / 10)).toArray⟩ = X := ⟨_, rfl⟩
      have hsz : X.size = (Lib.decDigits (n / 10)).length := by rw [← hX]; exact List.size_toArray
      rw [hX] at hc hres
      have hb1 : (oneB (48 + (n : Int) % 10)).size = 1 := rfl
      have hcat : ¬ 9223372036854775807 < X.size + 1 := by omega
      rw [hres]
      have e11 : IntKind.u64.wrap ((n : Int) / 10) = (n : Int) / 10 := wru64 (by omega) (by omega)
      have e12 : (n : Int).tmod 10 = (n : Int) % 10 := Int.tmod_eq_emod_of_nonneg (by omega)
      have e13 : IntKind.u64.wrap (48 + (n : Int) % 10) = 48 + (n : Int) % 10 := wru64 (by omega) (by omega)
      have e10 : ((n / 10 : Nat) : Int) = (n : Int) / 10 := by omega
      rw [e10] at hc
      clear hres hX ih hsz hlen
      go_enter Tryd.func20, Tryd.ntmps20
      go_wp2_with fail
      go_region_with (first
        | (go_at_call 20; refine (hc.out _).mono ?_; rintro e w' ⟨rfl, hb⟩; (try have hcell : w'.cell? ⟨_, 0, none⟩ = some (.int .u8 (48 + (n : Int) % 10)) := (Below.cell hb (by simp)).trans (World.cell?_alloc_new _ _ _ _)); have hbel : Below w.heap.size w w' := (by first | exact (Below.refl _ w).drew.trans hb | exact (((Below.refl _ w).drew.alloc (Nat.le_refl _) _).trans (hb.mono (by simp))))))
      all_goals
        go_wp2
        go_ret
        first | exact ⟨rfl, hbel⟩ | exact ⟨rfl, hbel.alloc hbel.size _⟩
theorem hq_index (w : World) : ∀ n : Nat, n < 16 → (Instr.index 9 (.string ⟨#[48, 49, 50, 51, 52, 53, 54, 55, 56, 57, 97, 98, 99, 100, 101, 102]⟩) (.int .i64 (n : Int))).run Tryd.prog w = .ok (.int .u8 ((hexd n).toNat : Int)) w
  | 0, _ => by kernel_rfl
  | 1, _ => by kernel_rfl
  | 2, _ => by kernel_rfl
  | 3, _ => by kernel_rfl
  | 4, _ => by kernel_rfl
  | 5, _ => by kernel_rfl
  | 6, _ => by kernel_rfl
  | 7, _ => by kernel_rfl
  | 8, _ => by kernel_rfl
  | 9, _ => by kernel_rfl
  | 10, _ => by kernel_rfl
  | 11, _ => by kernel_rfl
  | 12, _ => by kernel_rfl
  | 13, _ => by kernel_rfl
  | 14, _ => by kernel_rfl
  | 15, _ => by kernel_rfl
  | n + 16, h => absurd h (by omega)
theorem rhex_none (p : Option Addr) (c : Nat) (w : World) :
    Calls Tryd.prog 21 #[.slice p 0 c] w fun e w' => e = .returned (.string ⟨#[45]⟩) ∧ w' = w := by
  go_enter Tryd.func21, Tryd.ntmps21
  go_wp2
  go_ret
  exact ⟨rfl, rfl⟩
set_option maxRecDepth 100000 in
set_option maxHeartbeats 4000000 in
theorem rhex_some (l : List UInt8) (hn : l.length ≤ 1000000) (h0 : 0 < l.length) (p : Option Addr) (c : Nat) (W : World) (hp : Bytes W p l) :
    Calls Tryd.prog 21 #[.slice p l.length c] W fun e w' => e = .returned (.string ⟨(hexF l).toArray⟩) ∧ Below W.heap.size W w' := by
  have P := Lib.hid hp
  clear hp
  have q0 : ((l.length : Int) == 0) = false := by rw [beq_eq_false_iff_ne]; omega
  go_enter Tryd.func21, Tryd.ntmps21
  go_wp2_with fail
  go_loopw [4, 5] (fun vs vi wr => ∃ k : Nat, k ≤ l.length ∧ vs = .string ⟨(hexF (l.take k)).toArray⟩ ∧ vi = .int .i64 (k : Int) ∧ Hid (Below W.heap.size W wr)) (fun _ vi _ => l.length - (intOf vi).toNat)
  case atStart => exact ⟨0, by omega, rfl, rfl, Lib.hid (by repeat (first | exact Below.refl _ _ | refine Below.drew ?_ | refine bdrew ?_ _))⟩
  case round =>
    obtain ⟨k, hk, rfl, rfl, hB⟩ := hrel
    by_cases hkn : k < l.length
    · obtain ⟨x, hx⟩ : ∃ x, l[k]? = some x := ⟨l[k], List.getElem?_eq_getElem hkn⟩
      obtain ⟨b, rfl, hbl, hc⟩ := P.out k x hx
      have hc1 := (hB.out.cell (p := b.add k) hbl).trans hc
      have htk : Hid (hexF (l.take (k + 1)) = hexF (l.take k) ++ [hexd (x.toNat / 16), hexd (x.toNat % 16)]) := Lib.hid (by rw [List.take_add_one, hx, Option.toList_some, hexF_append]; simp [hexF])
      have hl1 : (hexF (l.take k)).length ≤ 2000000 := by rw [hexF_len, List.length_take]; omega
      have hx256 : x.toNat < 256 := x.toNat_lt
      have i1 := fun w => hq_index w (x.toNat / 16) (by omega)
      have i2 := fun w => hq_index w (x.toNat % 16) (by omega)
      have e1 : ((x.toNat / 16 : Nat) : Int) = (x.toNat : Int) / 16 := by omega
      have e2 : ((x.toNat % 16 : Nat) : Int) = (x.toNat : Int) % 16 := by omega
      rw [e1] at i1
      rw [e2] at i2
      have e3 : (x.toNat : Int).tmod 16 = (x.toNat : Int) % 16 := Int.tmod_eq_emod_of_nonneg (by omega)
      have e4 : IntKind.i64.wrap ((x.toNat : Int) / 16) = (x.toNat : Int) / 16 := by rw [IntKind.wrap_i64]; omega
      have e5 : IntKind.i64.wrap (x.toNat : Int) = (x.toNat : Int) := by rw [IntKind.wrap_i64]; omega
      obtain ⟨D, hD⟩ : ∃ D, hexF (l.take k) = D := ⟨_, rfl⟩
      obtain ⟨y1, hy1⟩ : ∃ y1, hexd (x.toNat / 16) = y1 := ⟨_, rfl⟩
      obtain ⟨y2, hy2⟩ : ∃ y2, hexd (x.toNat % 16) = y2 := ⟨_, rfl⟩
      rw [hD] at htk hl1 ⊢
      rw [hy1] at i1 htk
      rw [hy2] at i2 htk
      have hcat := (cat_bytes D [y1, y2]).symm
      rw [← htk.out] at hcat
      have htw := twoB_bytes y1 y2
      obtain ⟨S, hS⟩ : ∃ S : ByteArray, ⟨D.toArray⟩ = S := ⟨_, rfl⟩
      have hsz : S.size = D.length := by rw [← hS]; exact List.size_toArray
      rw [hS] at hcat ⊢
      have HC : Hid ((⟨(hexF (l.take (k + 1))).toArray⟩ : ByteArray) = S ++ twoB (y1.toNat : Int) (y2.toNat : Int)) := Lib.hid (by rw [hcat, htw])
      have hlt : ¬ 9223372036854775807 < S.size + 2 := by omega
      have hts : (twoB (y1.toNat : Int) (y2.toNat : Int)).size = 2 := rfl
      have hBs : W.heap.size ≤ wr.heap.size := hB.out.size
      have q1 : (k : Int) < (l.length : Int) := by omega
      have q2 : (0 : Int) ≤ (k : Int) := by omega
      clear hc hD hx e1 e2 hy1 hy2 hS hcat htw htk
      go_wp2_with fail
      go_region_with (fail)
      all_goals
        go_wp2
        go_roundw
        case rel => exact ⟨k + 1, by omega, by rw [HC.out], by go_num, Lib.hid (hB.out.drew.alloc hBs _)⟩
        case measure => simp [intOf]; omega
    · obtain rfl : k = l.length := by omega
      have hl : l.take l.length = l := List.take_length
      rw [hl]
      clear hl
      go_wp2
      go_ret
      exact ⟨rfl, hB.out⟩
/-- gaolerref28.Hex. -/
theorem rhex_any (l : List UInt8) (hn : l.length ≤ 1000000) (p : Option Addr) (c : Nat) (W : World) (hp : Bytes W p l) :
    Calls Tryd.prog 21 #[.slice p l.length c] W fun e w' => e = .returned (.string ⟨(hexS l).toArray⟩) ∧ Below W.heap.size W w' := by
  unfold hexS
  by_cases h : l = []
  · subst h
    rw [if_pos rfl]
    refine (rhex_none p c W).mono ?_
    rintro e w' ⟨rfl, rfl⟩
    exact ⟨rfl, Below.refl _ _⟩
  · rw [if_neg h]
    exact rhex_some l hn (List.length_pos_iff.2 h) p c W hp
/-! num -/
def numW : List UInt8 → Nat → Nat
  | [], n => n
  | c :: l, n => numW l ((10 * n + c.toNat % 16) % 18446744073709551616)
theorem numW_lt : ∀ (l : List UInt8) (n : Nat), n < 18446744073709551616 → numW l n < 18446744073709551616
  | [], _, h => h
  | c :: l, n, h => by
    unfold numW
    exact numW_lt l _ (Nat.mod_lt _ (by decide))
theorem numW_drop {l : List UInt8} {k : Nat} {c : UInt8} (h : l[k]? = some c) (n : Nat) : numW (l.drop k) n = numW (l.drop (k + 1)) ((10 * n + c.toNat % 16) % 18446744073709551616) := by
  have hk : k < l.length := (List.getElem?_eq_some_iff.1 h).1
  have hc : l[k] = c := (List.getElem?_eq_some_iff.1 h).2
  rw [List.drop_eq_getElem_cons hk, hc]
  rfl
set_option maxRecDepth 100000 in
set_option maxHeartbeats 4000000 in
/-- gaolerref28.num. -/
theorem num_any (l : List UInt8) (W : World) (hl : l.length ≤ 1000000) :
    Calls Tryd.prog 29 #[.string ⟨l.toArray⟩] W fun e w' => e = .returned (.int .u64 (numW l 0 : Int)) ∧ Below W.heap.size W w' := by
  obtain ⟨S, hS⟩ : ∃ S : ByteArray, ⟨l.toArray⟩ = S := ⟨_, rfl⟩
  have HS := Lib.hid hS
  have hsz : S.size = l.length := by rw [← hS]; exact List.size_toArray
  rw [hS]
  clear hS
  go_enter Tryd.func29, Tryd.ntmps29
  go_wp2_with fail
  go_loopw [3, 4] (fun vn vi wr => ∃ (k a : Nat), vn = .int .u64 (a : Int) ∧ vi = .int .i64 (k : Int) ∧ k ≤ l.length ∧ a < 18446744073709551616 ∧ Hid (numW (l.drop k) a = numW l 0) ∧ Hid (Below W.heap.size W wr)) (fun _ vi _ => l.length - (intOf vi).toNat)
  case atStart => exact ⟨0, 0, rfl, rfl, by omega, by omega, Lib.hid rfl, Lib.hid (by repeat (first | exact Below.refl _ _ | refine Below.drew ?_ | refine bdrew ?_ _))⟩
  case round =>
    obtain ⟨k, a, rfl, rfl, hk, ha, hn, hw⟩ := hrel
    by_cases hkn : k < l.length
    · obtain ⟨x, hx⟩ : ∃ x, l[k]? = some x := ⟨l[k], List.getElem?_eq_getElem hkn⟩
      have hlt : k < S.size := by omega
      have hg : S[k]'hlt = x := by
        have h1 := ba_get _ _ _ hx
        rw [HS.out] at h1
        exact Option.some.inj ((getElem?_pos S k hlt).symm.trans h1)
      have hd := Lib.hid (numW_drop hx a)
      clear hx
      have q1 : (k : Int) < (l.length : Int) := by omega
      have hx256 : x.toNat < 256 := x.toNat_lt
      have e3 : (x.toNat : Int).tmod 16 = (x.toNat : Int) % 16 := Int.tmod_eq_emod_of_nonneg (by omega)
      have e1 : IntKind.u64.wrap (IntKind.u64.wrap (10 * (a : Int)) + (x.toNat : Int) % 16) = ((((10 * a + x.toNat % 16) % 18446744073709551616 : Nat)) : Int) := by rw [IntKind.wrap_u64, IntKind.wrap_u64]; omega
      have e5 : IntKind.u64.wrap ((x.toNat : Int) % 16) = (x.toNat : Int) % 16 := wru64 (by omega) (by omega)
      obtain ⟨a', ha'⟩ : ∃ a', (10 * a + x.toNat % 16) % 18446744073709551616 = a' := ⟨_, rfl⟩
      have hlt' : a' < 18446744073709551616 := by rw [← ha']; exact Nat.mod_lt _ (by decide)
      rw [ha'] at hd e1
      clear ha'
      go_wp2
      go_roundw
      case rel => exact ⟨k + 1, a', rfl, by go_num, by omega, hlt', Lib.hid (hd.out.symm.trans hn.out), hw⟩
      case measure => simp [intOf]; omega
    · obtain rfl : k = l.length := by omega
      have ha' : Hid (a = numW l 0) := Lib.hid (by
        rw [← hn.out, List.drop_eq_nil_of_le (Nat.le_refl _)]
        rfl)
      clear hn
      go_wp2
      go_ret
      exact ⟨by rw [← ha'.out]; rfl, hw.out⟩
/-! digit -/
def digitB (c : UInt8) : UInt8 := if 97 ≤ c.toNat then UInt8.ofNat (c.toNat - 87) else UInt8.ofNat (c.toNat % 16)
theorem digit_any (c : UInt8) (W : World) : Calls Tryd.prog 30 #[.int .u8 (c.toNat : Int)] W fun e w' => e = .returned (.int .u8 ((digitB c).toNat : Int)) ∧ w' = W := by
  have hc : c.toNat < 256 := c.toNat_lt
  unfold digitB
  by_cases h : 97 ≤ c.toNat
  · rw [if_pos h]
    have q1 : (97 : Int) ≤ (c.toNat : Int) := by omega
    have e1 : IntKind.u8.wrap ((c.toNat : Int) - 87) = (c.toNat : Int) - 87 := by rw [IntKind.wrap_u8]; omega
    have e2 : ((UInt8.ofNat (c.toNat - 87)).toNat : Int) = (c.toNat : Int) - 87 := by rw [UInt8.toNat_ofNat']; omega
    rw [e2]
    clear h e2
    go_enter Tryd.func30, Tryd.ntmps30
    go_wp2
    go_ret
    exact ⟨rfl, rfl⟩
  · rw [if_neg h]
    have q1 : ¬ (97 : Int) ≤ (c.toNat : Int) := by omega
    have e3 : (c.toNat : Int).tmod 16 = (c.toNat : Int) % 16 := Int.tmod_eq_emod_of_nonneg (by omega)
    have e2 : ((UInt8.ofNat (c.toNat % 16)).toNat : Int) = (c.toNat : Int) % 16 := by rw [UInt8.toNat_ofNat']; omega
    have e4 : IntKind.u8.wrap ((c.toNat : Int) % 16) = (c.toNat : Int) % 16 := by rw [IntKind.wrap_u8]; omega
    rw [e2]
    clear h e2
    go_enter Tryd.func30, Tryd.ntmps30
    go_wp2
    go_ret
    exact ⟨rfl, rfl⟩
end Go.Proofs.YtnfkimhhgflfjaaDoor.Rep
