/- internal/strconv.ParseUint at base 16 and 32 bits, walked (after the shelf's proof at base 10). strconv.ParseUint at base 16 and asm.one, walked. -/
import Derived.Test.YtihnglgknncgpaaGreatDoorPs1
import Derived.Lib.ParseIntBMem
import Derived.Lib.AtoiAllMem
import Derived.Test.YtihnglgknncgpaaGreatDoorDisA
namespace Go.Proofs.YtihnglgknncgpaaGreatDoor.Asm
open Go Go.RowKit Go.Proofs.YtihnglgknncgpaaGreatDoor.PAsmEveryWordHasOneLine Go.Proofs.YtihnglgknncgpaaGreatDoorW.PrintWords Go.Proofs.YtihnglgknncgpaaGreatDoorW.PrintLast Go.Proofs.YtihnglgknncgpaaGreatDoorW.PrintMore Go.Proofs.YtihnglgknncgpaaGreatDoor.Bm Go.Proofs.YtihnglgknncgpaaGreatDoor.Isa
set_option linter.unusedVariables false
set_option linter.unusedSimpArgs false
/-! ### strconv.ParseUint(s, 16, 32) -/
/-- The letter in small. -/
def lowB (c : UInt8) : Int := bits .or .u8 (c.toNat : Int) 32
/-- A hexadecimal digit's number. -/
def dig16 (c : UInt8) : Option Nat := if 48 ≤ c.toNat ∧ c.toNat ≤ 57 then some (c.toNat - 48) else if 97 ≤ lowB c ∧ lowB c ≤ 102 then some (lowB c - 87).toNat else none
/-- How a numeral's reading ends. -/
inductive HexEnd where
  | ok (n : Nat)
  | bad
  | over
/-- What internal/strconv.ParseUint(s, 16, 32) hands back. -/
def hexT : HexEnd → Value
  | .ok n => .tuple #[.int .u64 (n : Int), .nilIface]
  | .bad => .tuple #[.int .u64 0, .iface 113 (.int .i64 2)]
  | .over => .tuple #[.int .u64 4294967295, .iface 113 (.int .i64 1)]
/-- How internal/strconv.ParseUint(s, 16, 32) ends. -/
def pu16 : Nat → List UInt8 → HexEnd
  | acc, [] => .ok acc
  | acc, c :: r => match dig16 c with
    | none => .bad
    | some d => if 4294967295 < acc * 16 + d then .over else pu16 (acc * 16 + d) r
theorem low_at (c : UInt8) (w : World) : Calls Tryz.prog 89 #[.int .u8 (c.toNat : Int)] w fun e w' => e = .returned (.int .u8 (lowB c)) ∧ w' = w := Tryz.internal_strconv_lower _ w
set_option maxHeartbeats 32000000 in
set_option maxRecDepth 100000 in
theorem pu_in (t : ByteArray) (hne : t.size ≠ 0) (hmax : t.size ≤ 9223372036854775806) (w : World) :
    Calls Tryz.prog 75 #[.string t, .int .i64 16, .int .i64 32] w fun e w' => e = .returned (hexT (pu16 0 t.data.toList)) ∧ w' = Lib.bytesWorld w 5 t := by
  have hemp : t.toList.isEmpty = false := by
    rw [← decide_eq_emptyBytes]
    exact decide_eq_false (fun h => hne (by rw [h]; rfl))
  have hcv := Lib.run_convert_string_bytes (P := Tryz.prog) w 9 47 5 t (u := .string) Tryz.underlying9 Tryz.underlying47 Tryz.underlying5
  have hB : ∀ j, j < t.size → (Lib.bytesWorld w 5 t).cell? ⟨w.heap.size, j, none⟩ = some (.int .u8 (t.data.toList.getD j 0).toNat) := fun j hj => Lib.bytesWorld_cell w 5 t j hj
  obtain ⟨W1, hW1⟩ : ∃ W1, W1 = Lib.bytesWorld w 5 t := ⟨_, rfl⟩
  rw [← hW1] at hcv hB ⊢
  clear hW1
  obtain ⟨bs, hL⟩ : ∃ bs, bs = t.data.toList := ⟨_, rfl⟩
  have hLn : bs.length = t.size := by rw [hL, Lib.size_eq]
  rw [← hL] at hB ⊢
  clear hL
  have hmv : IntKind.u64.wrap (IntKind.u64.wrap 4294967296 - 1) = 4294967295 := by
    rw [IntKind.wrap_u64, IntKind.wrap_u64]
    decide
  go_enter Tryz.func75, Tryz.ntmps75
  go_wp2
  go_loop [12, 13, 101] (fun vu vn vi => ∃ (k acc : Nat) (a : Int), vu = .bool false ∧ vn = .int .u64 a ∧ vi = .int .i64 k ∧ k ≤ t.size ∧ Hid (a = (acc : Int) ∧ acc ≤ 4294967295 ∧ pu16 0 bs = pu16 acc (bs.drop k)))
    (fun _ _ vi => t.size - (intOf vi).toNat)
  case atStart => exact ⟨0, 0, 0, rfl, rfl, rfl, by omega, rfl, by omega, rfl⟩
  case round =>
    obtain ⟨k, acc, a, rfl, rfl, rfl, hk, hh⟩ := hrel
    obtain ⟨ha, hacc, hdec⟩ := hh.out
    clear hh
    have a0 : 0 ≤ a := by omega
    have a1 : a ≤ 4294967295 := by omega
    by_cases hkn : k < t.size
    · have hc := hB k hkn
      have hdrop : bs.drop k = bs[k]'(by omega) :: bs.drop (k + 1) := List.drop_eq_getElem_cons (by omega)
      have hget : bs.getD k 0 = bs[k]'(by omega) := by simp [List.getD, List.getElem?_eq_getElem (show k < bs.length by omega)]
      rw [hdrop] at hdec
      rw [hget] at hc
      generalize bs[k]'(by omega) = c at hc hdec
      have hc256 : c.toNat < 256 := c.toNat_lt
      clear hB hdrop hget
      by_cases hdig : 48 ≤ c.toNat ∧ c.toNat ≤ 57
      · have hD : dig16 c = some (c.toNat - 48) := by rw [dig16, if_pos hdig]
        obtain ⟨hd0, hd1⟩ := hdig
        by_cases hov : 4294967295 < acc * 16 + (c.toNat - 48)
        · have hF : pu16 acc (c :: bs.drop (k + 1)) = .over := by simp only [pu16, hD, if_pos hov]
          rw [hF] at hdec
          have iov : 4294967295 < a * 16 + ((c.toNat : Int) - 48) := by omega
          clear hacc hF hov ha hD
          go_wp2
          go_ret2
          first | exact ⟨rfl, rfl⟩ | exact ⟨by rw [hdec]; rfl, rfl⟩
        · have hF : pu16 acc (c :: bs.drop (k + 1)) = pu16 (acc * 16 + (c.toNat - 48)) (bs.drop (k + 1)) := by simp only [pu16, hD, if_neg hov]
          have HN : Hid (a * 16 + ((c.toNat : Int) - 48) = ((acc * 16 + (c.toNat - 48) : Nat) : Int) ∧ acc * 16 + (c.toNat - 48) ≤ 4294967295 ∧ pu16 0 bs = pu16 (acc * 16 + (c.toNat - 48)) (bs.drop (k + 1))) := Lib.hid ⟨by omega, by omega, hdec.trans hF⟩
          have iov : a * 16 + ((c.toNat : Int) - 48) ≤ 4294967295 := by omega
          clear hacc hF hov hdec ha hD
          go_wp2
          refine ⟨⟨k + 1, acc * 16 + (c.toNat - 48), a * 16 + ((c.toNat : Int) - 48), rfl, (by first | rfl | (congr 1; omega)), (by first | rfl | (congr 1; omega)), by omega, HN⟩, by simp [intOf]; omega⟩
      · by_cases h95 : c.toNat = 95
        · have hD : dig16 c = none := by
            have e : bits .or .u8 95 32 = 127 := by decide
            rw [dig16, if_neg hdig, if_neg (by unfold lowB; rw [h95]; exact fun h => absurd (e ▸ h.2) (by decide))]
          have hF : pu16 acc (c :: bs.drop (k + 1)) = .bad := by simp only [pu16, hD]
          rw [hF] at hdec
          have hl := fun w => low_at c w
          have e : lowB c = 127 := by unfold lowB; rw [h95]; decide
          rw [e, h95] at hl
          rw [h95] at hc
          clear hacc hF ha hdig hD e h95 hc256
          go_wp2_with (go_at_call 89; refine (hl _).mono ?_; rintro e w' ⟨rfl, rfl⟩)
          all_goals go_ret2
          all_goals first | exact ⟨rfl, rfl⟩ | exact ⟨by rw [hdec]; rfl, rfl⟩
        · have hl := Lib.hid (fun w => low_at c w)
          have hv0 : 0 ≤ lowB c := bits_lo_u8 .or (c.toNat : Int) 32
          have hv1 : lowB c ≤ 255 := bits_hi_u8 .or (c.toNat : Int) 32
          have hDd : Hid (dig16 c = if 97 ≤ lowB c ∧ lowB c ≤ 102 then some (lowB c - 87).toNat else none) := Lib.hid (by rw [dig16, if_neg hdig])
          obtain ⟨e, he⟩ : ∃ e, lowB c = e := ⟨_, rfl⟩
          rw [he] at hl hv0 hv1 hDd
          clear he
          have h95' : ¬ (c.toNat : Int) = 95 := by omega
          have hdig' : (c.toNat : Int) < 48 ∨ 57 < (c.toNat : Int) := by omega
          by_cases h1 : 97 ≤ e ∧ e ≤ 102
          · have hD : dig16 c = some (e - 87).toNat := by rw [hDd.out, if_pos h1]
            obtain ⟨h11, h12⟩ := h1
            clear hDd hdig
            by_cases hov : 4294967295 < acc * 16 + (e - 87).toNat
            · have hF : pu16 acc (c :: bs.drop (k + 1)) = .over := by simp only [pu16, hD, if_pos hov]
              rw [hF] at hdec
              have iov : 4294967295 < a * 16 + (e - 97 + 10) := by omega
              clear hacc hF hov ha hD
              rcases hdig' with hdig' | hdig'
              all_goals
                go_wp2_with (go_at_call 89; refine (hl.out _).mono ?_; rintro e w' ⟨rfl, rfl⟩)
                go_ret2
                first | exact ⟨rfl, rfl⟩ | exact ⟨by rw [hdec]; rfl, rfl⟩
            · have hF : pu16 acc (c :: bs.drop (k + 1)) = pu16 (acc * 16 + (e - 87).toNat) (bs.drop (k + 1)) := by simp only [pu16, hD, if_neg hov]
              have HN : Hid (a * 16 + (e - 97 + 10) = ((acc * 16 + (e - 87).toNat : Nat) : Int) ∧ acc * 16 + (e - 87).toNat ≤ 4294967295 ∧ pu16 0 bs = pu16 (acc * 16 + (e - 87).toNat) (bs.drop (k + 1))) := Lib.hid ⟨by omega, by omega, hdec.trans hF⟩
              have iov : a * 16 + (e - 97 + 10) ≤ 4294967295 := by omega
              clear hacc hF hov hdec ha hD
              rcases hdig' with hdig' | hdig'
              all_goals
                go_wp2_with (go_at_call 89; refine (hl.out _).mono ?_; rintro e w' ⟨rfl, rfl⟩)
                refine ⟨⟨k + 1, acc * 16 + (e - 87).toNat, a * 16 + (e - 97 + 10), rfl, (by first | rfl | (congr 1; omega)), (by first | rfl | (congr 1; omega)), by omega, HN⟩, by simp [intOf]; omega⟩
          · have hD : dig16 c = none := by rw [hDd.out, if_neg h1]
            have hF : pu16 acc (c :: bs.drop (k + 1)) = .bad := by simp only [pu16, hD]
            rw [hF] at hdec
            have h1' : e < 97 ∨ 122 < e ∨ (97 ≤ e ∧ e ≤ 122 ∧ 16 ≤ e - 97 + 10) := by omega
            clear hacc hF ha hdig hD hDd h1
            rcases hdig' with hdig' | hdig' <;> rcases h1' with h1 | h1 | ⟨h1, h2, h3⟩
            all_goals
              go_wp2_with (go_at_call 89; refine (hl.out _).mono ?_; rintro e w' ⟨rfl, rfl⟩)
              all_goals go_ret2
              all_goals first | exact ⟨rfl, rfl⟩ | exact ⟨by rw [hdec]; rfl, rfl⟩
    · have hkk : k = t.size := by omega
      subst hkk
      have hF : pu16 acc (bs.drop t.size) = .ok acc := by rw [List.drop_eq_nil_of_le (by omega)]; rfl
      rw [hF] at hdec
      subst ha
      clear hacc hF a0 a1
      go_wp2
      go_ret2
      first | exact ⟨rfl, rfl⟩ | exact ⟨by rw [hdec]; rfl, rfl⟩
theorem pu16_lt : ∀ (l : List UInt8) (acc u : Nat), acc ≤ 4294967295 → pu16 acc l = .ok u → u ≤ 4294967295
  | [], acc, u, ha, h => by
    simp only [pu16] at h
    injection h with h
    omega
  | c :: r, acc, u, ha, h => by
    simp only [pu16] at h
    split at h
    · cases h
    · split at h
      · cases h
      · exact pu16_lt r _ u (by omega) h
/-- How strconv.ParseUint(s, 16, 32) ends. -/
def puR (l : List UInt8) : HexEnd := if l = [] then .bad else pu16 0 l
theorem puR_lt {l : List UInt8} {u : Nat} (h : puR l = .ok u) : u ≤ 4294967295 := by
  unfold puR at h
  split at h
  · cases h
  · exact pu16_lt l 0 u (by omega) h
theorem pu_any (s : ByteArray) (hlim : s.size ≤ 281474976710656) (W : World) :
    Calls Tryz.prog 75 #[.string s, .int .i64 16, .int .i64 32] W fun e w' => e = .returned (hexT (puR s.data.toList)) ∧ Below W.heap.size W w' := by
  by_cases h0 : s.size = 0
  · have hs : s = ⟨#[]⟩ := by
      apply ByteArray.ext
      exact Array.eq_empty_of_size_eq_zero h0
    subst hs
    exact (Tryz.internal_strconv_ParseUint_empty 16 32 W).mono fun e w' ⟨a, b⟩ => ⟨a, b ▸ Below.refl _ _⟩
  · have hne : s.data.toList ≠ [] := fun h => h0 (by rw [Lib.size_eq, h]; rfl)
    refine (pu_in s h0 (by omega) W).mono fun e w' ⟨a, b⟩ => ⟨?_, ?_⟩
    · rw [a, puR, if_neg hne]
    · rw [b]; exact Lib.bytesWorld_below _ _ _
set_option maxHeartbeats 4000000 in
set_option maxRecDepth 100000 in
theorem pu_ok (s : ByteArray) (hlim : s.size ≤ 281474976710656) (W : World) (u : Nat) (h : puR s.data.toList = .ok u) :
    Calls Tryz.prog 52 #[.string s, .int .i64 16, .int .i64 32] W fun e w' => e = .returned (.tuple #[.int .u64 (u : Int), .nilIface]) ∧ Below W.heap.size W w' := by
  have I := pu_any s hlim W
  rw [h] at I
  have I : Calls Tryz.prog 75 #[.string s, .int .i64 16, .int .i64 32] W fun e w' => e = .returned (.tuple #[.int .u64 (u : Int), .nilIface]) ∧ Below W.heap.size W w' := I
  clear h
  go_enter Tryz.func52, Tryz.ntmps52
  go_wp2_with fail
  refine I.mono ?_
  rintro e w1 ⟨rfl, hb⟩
  have B := Lib.hid hb
  clear hb I
  go_wp2
  go_ret2
  exact ⟨rfl, B.out⟩
set_option maxHeartbeats 4000000 in
set_option maxRecDepth 100000 in
theorem pu_bad (s : ByteArray) (hlim : s.size ≤ 281474976710656) (W : World) (hE : Env W) (h : ∀ u, puR s.data.toList ≠ .ok u) :
    Calls Tryz.prog 52 #[.string s, .int .i64 16, .int .i64 32] W fun e w' => (∃ (n : Nat) (a : Option Addr), n ≤ 4294967295 ∧ e = .returned (.tuple #[.int .u64 (n : Int), .iface 115 (.pointer a)])) ∧ Below W.heap.size W w' := by
  obtain ⟨e1, x1, x1'⟩ := hE.es
  obtain ⟨e2, x2, x2'⟩ := hE.er
  have I := pu_any s hlim W
  have E := Lib.hid hE
  clear hE
  cases hp : puR s.data.toList with
  | ok u => exact absurd hp (h u)
  | bad =>
    rw [hp] at I
    have I : Calls Tryz.prog 75 #[.string s, .int .i64 16, .int .i64 32] W fun e w' => e = .returned (.tuple #[.int .u64 0, .iface 113 (.int .i64 2)]) ∧ Below W.heap.size W w' := I
    clear h hp
    go_enter Tryz.func52, Tryz.ntmps52
    go_wp2_with fail
    refine I.mono ?_
    rintro e w1 ⟨rfl, hb⟩
    have B := Lib.hid hb
    obtain ⟨e1, x1, x1'⟩ := (E.out.later hb).es
    have T := Tryz.strconv_toError_syntax ⟨#[80, 97, 114, 115, 101, 85, 105, 110, 116]⟩ s 16 32 e1 w1 hlim x1 x1'
    clear hb I
    go_wp2_with fail
    refine T.mono ?_
    rintro e w2 ⟨N, rfl, _, _, hb⟩
    have B2 := Lib.hid (B.out.trans (hb.mono B.out.size))
    clear hb T
    go_wp2
    go_ret2
    exact ⟨⟨0, _, by omega, rfl⟩, B2.out⟩
  | over =>
    rw [hp] at I
    have I : Calls Tryz.prog 75 #[.string s, .int .i64 16, .int .i64 32] W fun e w' => e = .returned (.tuple #[.int .u64 4294967295, .iface 113 (.int .i64 1)]) ∧ Below W.heap.size W w' := I
    clear h hp
    go_enter Tryz.func52, Tryz.ntmps52
    go_wp2_with fail
    refine I.mono ?_
    rintro e w1 ⟨rfl, hb⟩
    have B := Lib.hid hb
    obtain ⟨e1, x1, x1'⟩ := (E.out.later hb).er
    have T := Tryz.strconv_toError_range ⟨#[80, 97, 114, 115, 101, 85, 105, 110, 116]⟩ s 16 32 e1 w1 hlim x1 x1'
    clear hb I
    go_wp2_with fail
    refine T.mono ?_
    rintro e w2 ⟨N, rfl, _, _, hb⟩
    have B2 := Lib.hid (B.out.trans (hb.mono B.out.size))
    clear hb T
    go_wp2
    go_ret2
    exact ⟨⟨4294967295, _, by omega, rfl⟩, B2.out⟩
/-- The number behind 'word ', if there is one. -/
def wordU (s : ByteArray) : HexEnd := puR (Lib.trimPrefix s.data.toList [119, 111, 114, 100, 32])
/-- The word whose line s is, if there is one. -/
def oneP (s : ByteArray) : Option Nat :=
  if parseOk s then some (encW (readP s)) else match wordU s with
    | .ok u => if lineL u = s.data.toList then some u else none
    | _ => none
set_option maxHeartbeats 8000000 in
set_option maxRecDepth 100000 in
theorem one_go (s : ByteArray) (hs : s.size < 4294967281) (W : World) (hE : Env W) :
    Calls Tryz.prog 29 #[.string s] W fun e w' => (∃ n : Nat, n < 2 ^ 32 ∧ e = .returned (.tuple #[.int .u32 (n : Int), .bool (oneP s).isSome]) ∧ ((oneP s).isSome = true → oneP s = some n)) ∧ Below W.heap.size W w' := by
  have P := parse_go s W hE hs
  have E := Lib.hid hE
  clear hE
  by_cases hp : parseOk s
  · have ho : oneP s = some (encW (readP s)) := by unfold oneP; rw [if_pos hp]
    have hv : vld (readP s) = true := hp.1
    rw [ho]
    simp only [parseI, parseE, if_pos hp] at P
    have En := Lib.hid (fun W hT => encode_at (readP s) (encW (readP s)) true W hT (by unfold encR; rw [if_pos hv]) hv)
    have hlt := encW_lt hv
    obtain ⟨n, hn⟩ : ∃ n, encW (readP s) = n := ⟨_, rfl⟩
    rw [hn] at En hlt ⊢
    obtain ⟨i, hi⟩ : ∃ i, readP s = i := ⟨_, rfl⟩
    rw [hi] at P En
    clear ho hv hn hi hp
    obtain ⟨i0, i1, i2, i3, i4⟩ := i
    simp only [In.v, Option.isSome_some] at P En ⊢
    go_enter Tryz.func29, Tryz.ntmps29
    go_wp2_with fail
    refine P.mono ?_
    rintro e w1 ⟨rfl, hb⟩
    have B1 := Lib.hid hb
    clear hb P
    go_wp2_with fail
    refine (En.out _ (E.out.later (B1.out.alloc B1.out.size _)).tabs).mono ?_
    rintro e w2 ⟨rfl, hb⟩
    have B2 := Lib.hid (B1.out.trans ((((Below.refl w1.heap.size w1).alloc (Nat.le_refl _) _).trans (hb.mono (by simp))).mono B1.out.size))
    clear hb En E
    go_wp2
    go_ret2
    exact ⟨⟨n, hlt, rfl, fun _ => rfl⟩, B2.out⟩
  · simp only [parseI, parseE, if_neg hp] at P
    simp only [nilI, In.v] at P
    have hsz : s.size ≤ 281474976710656 := by omega
    have hts := Nat.le_trans (trim_size s [119, 111, 114, 100, 32]) hsz
    cases hw : wordU s with
    | ok u =>
      have hu : u ≤ 4294967295 := puR_lt hw
      have ho : oneP s = if lineL u = s.data.toList then some u else none := by unfold oneP; rw [if_neg hp, hw]
      have L := Lib.hid (fun W hE => line_go u (by omega) W hE)
      have T := Lib.hid (fun w => Tryz.strings_TrimPrefix s ⟨#[119, 111, 114, 100, 32]⟩ w)
      have U := Lib.hid (fun W => pu_ok ⟨(Lib.trimPrefix s.data.toList [119, 111, 114, 100, 32]).toArray⟩ hts W u hw)
      have hu1 : (u : Int) ≤ 4294967295 := by omega
      have hwr : IntKind.u32.wrap (u : Int) = (u : Int) := by rw [IntKind.wrap_u32]; omega
      obtain ⟨X, hX⟩ : ∃ X : ByteArray, ⟨(lineL u).toArray⟩ = X := ⟨_, rfl⟩
      have hXs : lineL u = X.data.toList := by rw [← hX]
      rw [hX] at L
      rw [hXs] at ho
      clear hX hXs hp hw hts
      go_enter Tryz.func29, Tryz.ntmps29
      go_wp2_with fail
      refine P.mono ?_
      rintro e w1 ⟨rfl, hb⟩
      have B1 := Lib.hid hb
      clear hb P
      have B1a := Lib.hid (B1.out.alloc B1.out.size (.cells zeros 27))
      simp only [zeros] at B1a
      go_wp2_with fail
      refine (T.out _).mono ?_
      rintro e w2 ⟨rfl, rfl⟩
      go_wp2_with fail
      refine (U.out _).mono ?_
      rintro e w2 ⟨rfl, hb⟩
      have B2 := Lib.hid (B1a.out.trans (hb.mono B1a.out.size))
      clear hb U T
      go_wp2_with fail
      refine (L.out _ (E.out.later B2.out)).mono ?_
      rintro e w3 ⟨rfl, hb⟩
      have B3 := Lib.hid (B2.out.trans (hb.mono B2.out.size))
      clear hb L E B2 B1a B1
      have ho := Lib.hid ho
      by_cases heq : X = s
      · have ho : Hid (oneP s = some u) := Lib.hid (by rw [ho.out, heq, if_pos rfl])
        subst heq
        go_wp2
        go_ret2
        rw [ho.out]
        exact ⟨⟨u, by omega, rfl, fun _ => rfl⟩, B3.out⟩
      · have h1 := toList_ne heq
        have h2 := toList_beq heq
        have ho : Hid (oneP s = none) := Lib.hid (by rw [ho.out, if_neg (fun h => heq (ByteArray.ext (Array.ext' h)))])
        clear heq
        go_wp2
        go_ret2
        rw [ho.out]
        exact ⟨⟨u, by omega, rfl, fun h => absurd h (by decide)⟩, B3.out⟩
    | _ =>
      have ho : Hid (oneP s = none) := Lib.hid (by unfold oneP; rw [if_neg hp, hw])
      have T := Lib.hid (fun w => Tryz.strings_TrimPrefix s ⟨#[119, 111, 114, 100, 32]⟩ w)
      have U := Lib.hid (fun W hE => pu_bad ⟨(Lib.trimPrefix s.data.toList [119, 111, 114, 100, 32]).toArray⟩ hts W hE (fun u h => by have := hw.symm.trans h; cases this))
      clear hp hw hts
      go_enter Tryz.func29, Tryz.ntmps29
      go_wp2_with fail
      refine P.mono ?_
      rintro e w1 ⟨rfl, hb⟩
      have B1 := Lib.hid hb
      clear hb P
      have B1a := Lib.hid (B1.out.alloc B1.out.size (.cells zeros 27))
      simp only [zeros] at B1a
      go_wp2_with fail
      refine (T.out _).mono ?_
      rintro e w2 ⟨rfl, rfl⟩
      go_wp2_with fail
      refine (U.out _ (E.out.later B1a.out)).mono ?_
      rintro e w2 ⟨⟨n, a, hn, rfl⟩, hb⟩
      have B2 := Lib.hid (B1a.out.trans (hb.mono B1a.out.size))
      have hwr : IntKind.u32.wrap (n : Int) = (n : Int) := by rw [IntKind.wrap_u32]; omega
      clear hb U T
      go_wp2
      go_ret2
      rw [ho.out]
      exact ⟨⟨n, by omega, rfl, fun h => absurd h (by decide)⟩, B2.out⟩
end Go.Proofs.YtihnglgknncgpaaGreatDoor.Asm
