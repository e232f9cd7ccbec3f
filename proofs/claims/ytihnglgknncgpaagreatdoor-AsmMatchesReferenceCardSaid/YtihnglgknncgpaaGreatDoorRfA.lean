/- The reference's numerals, names and text of an instruction, walked. -/
import Derived.Test.YtihnglgknncgpaaGreatDoorAw
import Derived.Test.YtihnglgknncgpaaGreatDoorIsaW5
namespace Go.Proofs.YtihnglgknncgpaaGreatDoor.Asm
open Go Go.RowKit Go.Proofs.YtihnglgknncgpaaGreatDoor.PAsmEveryWordHasOneLine Go.Proofs.YtihnglgknncgpaaGreatDoorW.PrintWords Go.Proofs.YtihnglgknncgpaaGreatDoorW.PrintLast Go.Proofs.YtihnglgknncgpaaGreatDoorW.PrintMore Go.Proofs.YtihnglgknncgpaaGreatDoor.Bm Go.Proofs.YtihnglgknncgpaaGreatDoor.Isa
set_option linter.unusedVariables false
set_option linter.unusedSimpArgs false
/-! ### The reference's numerals and names -/
theorem conv_list (W : World) (a : Addr) (c : Nat) (l : List UInt8) (hc : ∀ j (hj : j < l.length), W.cell? (a.add j) = some (.int .u8 (l[j].toNat : Int))) : (convert 47 9 (.slice (some a) l.length c)).run Tryz.prog W = .ok (.string ⟨l.toArray⟩) W :=
  run_convert_bytes_back W 47 9 5 a c l Tryz.underlying47 Tryz.underlying5 Tryz.underlying9 hc
/-- One byte. -/
def oneB (x : Int) : ByteArray := ⟨#[UInt8.ofNat x.toNat]⟩
noncomputable def convOf (W : World) (b c : Nat) : Option Value → Result Value
  | some (.int .u8 x) => .ok (.string (oneB x)) W
  | _ => (convert 47 9 (.slice (some ⟨b, 0, none⟩) 1 c)).run Tryz.prog W
theorem convOf_some (W : World) (b c : Nat) (x : Int) : convOf W b c (some (.int .u8 x)) = .ok (.string (oneB x)) W := rfl
theorem conv_go (W : World) (b c : Nat) : (convert 47 9 (.slice (some ⟨b, 0, none⟩) 1 c)).run Tryz.prog W = convOf W b c (W.cell? ⟨b, 0, none⟩) := by
  unfold convOf
  split
  · rename_i x h
    rw [run_convert_bytes_string W 47 9 5 (some ⟨b, 0, none⟩) 1 c Tryz.underlying47 Tryz.underlying5 Tryz.underlying9]
    have hl := run_loadCells_list (P := Tryz.prog) W ⟨b, 0, none⟩ [Value.int .u8 x] (fun j v hj => by
      match j, hj with
      | 0, hj => simp at hj; subst hj; exact h
      | j + 1, hj => simp at hj)
    rw [run_bytesToString W ⟨b, 0, none⟩ 1 c [x] hl]
    rfl
  · rfl
attribute [local go_sem] conv_go convOf_some
theorem oneB_size (x : Int) : (oneB x).size = 1 := rfl
theorem cat_bytes (a b : List UInt8) : (⟨a.toArray⟩ : ByteArray) ++ (⟨b.toArray⟩ : ByteArray) = ⟨(a ++ b).toArray⟩ := by
  apply ByteArray.ext
  show ((⟨a.toArray⟩ : ByteArray) ++ (⟨b.toArray⟩ : ByteArray)).data = _
  rw [ByteArray.data_append]
  simp
theorem dec_size : ∀ (k n : Nat), 0 < k → n < 10 ^ k → (⟨(Lib.decDigits n).toArray⟩ : ByteArray).size ≤ k
  | 0, n, h, _ => by omega
  | k + 1, n, _, h => by
    show (Lib.decDigits n).length ≤ k + 1
    by_cases h10 : n < 10
    · rw [Lib.decDigits_one h10]; simp
    · rw [Lib.decDigits, dif_neg h10, List.length_append]
      have hk : 0 < k := by
        rcases Nat.eq_zero_or_pos k with rfl | hk
        · omega
        · exact hk
      have := dec_size k (n / 10) hk (by rw [Nat.pow_succ] at h; omega)
      have e : (Lib.decDigits (n / 10)).length ≤ k := this
      simp
      omega
theorem dec_snoc (n : Nat) (h : ¬ n < 10) : (⟨(Lib.decDigits n).toArray⟩ : ByteArray) = ⟨(Lib.decDigits (n / 10)).toArray⟩ ++ oneB (48 + (n : Int) % 10) := by
  rw [Lib.decDigits, dif_neg h]
  have e : oneB (48 + (n : Int) % 10) = ⟨[UInt8.ofNat (48 + n % 10)].toArray⟩ := by
    unfold oneB
    have : (48 + (n : Int) % 10).toNat = 48 + n % 10 := by omega
    rw [this]
  rw [e, cat_bytes]
theorem wr64 {x : Int} (h1 : -9223372036854775808 ≤ x) (h2 : x ≤ 9223372036854775807) : IntKind.i64.wrap x = x := by rw [IntKind.wrap_i64]; omega
set_option maxRecDepth 100000 in
theorem dec_pos (n : Nat) : ∀ (w : World), n < 1000000000000000000 → Calls Tryz.prog 34 #[.int .i64 (n : Int)] w fun e w' => e = .returned (.string ⟨(Lib.decDigits n).toArray⟩) ∧ Below w.heap.size w w' := by
  induction n using Nat.strongRecOn with
  | _ n ih =>
    intro w hn
    by_cases h : n < 10
    · have q1 : ¬ (n : Int) < 0 := by omega
      have q2 : (n : Int) < 10 := by omega
      have q3 : IntKind.u8.wrap (48 + (n : Int)) = 48 + (n : Int) := by rw [IntKind.wrap_u8]; omega
      have hres : (⟨(Lib.decDigits n).toArray⟩ : ByteArray) = oneB (48 + (n : Int)) := by rw [Lib.decDigits_one h]; rfl
      rw [hres]
      clear ih hres
      go_enter Tryz.func34, Tryz.ntmps34
      go_wp2
      go_ret
      exact ⟨rfl, (Below.refl _ w).alloc (Nat.le_refl _) _⟩
    · have q1 : ¬ (n : Int) < 0 := by omega
      have q2 : ¬ (n : Int) < 10 := by omega
      have q3 : IntKind.u8.wrap (48 + (n : Int) % 10) = 48 + (n : Int) % 10 := by rw [IntKind.wrap_u8]; omega
      have hc := Lib.hid (fun w => ih (n / 10) (by omega) w (by omega))
      have hlen := dec_size 18 (n / 10) (by omega) (by omega)
      have hres := dec_snoc n h
      obtain ⟨X, hX⟩ : ∃ X : ByteArray, ⟨(Lib.decDigits (n / 10)).toArray⟩ = X := ⟨_, rfl⟩
      rw [hX] at hlen hc hres
      have hb1 : (oneB (48 + (n : Int) % 10)).size = 1 := rfl
      have hcat : ¬ 9223372036854775807 < X.size + 1 := by omega
      rw [hres]
      have e11 : IntKind.i64.wrap ((n : Int) / 10) = (n : Int) / 10 := wr64 (by omega) (by omega)
      have e12 : (n : Int).tmod 10 = (n : Int) % 10 := Int.tmod_eq_emod_of_nonneg (by omega)
      have e13 : IntKind.i64.wrap (48 + (n : Int) % 10) = 48 + (n : Int) % 10 := wr64 (by omega) (by omega)
      have e10 : ((n / 10 : Nat) : Int) = (n : Int) / 10 := by omega
      rw [e10] at hc
      clear hres hX ih
      go_enter Tryz.func34, Tryz.ntmps34
      go_wp2_with fail
      go_region_with (first
        | (go_at_call 34; refine (hc.out _).mono ?_; rintro e w' ⟨rfl, hb⟩; (try have hcell : w'.cell? ⟨_, 0, none⟩ = some (.int .u8 (48 + (n : Int) % 10)) := (Below.cell hb (by simp)).trans (World.cell?_alloc_new _ _ _ _)); have hbel : Below w.heap.size w w' := (by first | exact (Below.refl _ w).drew.trans hb | exact (((Below.refl _ w).drew.alloc (Nat.le_refl _) _).trans (hb.mono (by simp))))))
      all_goals
        go_wp2
        go_ret
        first | exact ⟨rfl, hbel⟩ | exact ⟨rfl, hbel.alloc hbel.size _⟩
set_option maxRecDepth 100000 in
/-- The reference's dec. -/
theorem dec_ref (n : Int) (w : World) (h1 : -1000000000000000000 < n) (h2 : n < 1000000000000000000) : Calls Tryz.prog 34 #[.int .i64 n] w fun e w' => e = .returned (.string ⟨(Lib.itoa n).toArray⟩) ∧ Below w.heap.size w w' := by
  by_cases hn : n < 0
  · obtain ⟨k, hk⟩ : ∃ k : Nat, -n = (k : Int) := ⟨(-n).toNat, by omega⟩
    obtain rfl : n = -(k : Int) := by omega
    have D := Lib.hid (fun w => dec_pos k w (by omega))
    have hlen := dec_size 18 k (by omega) (by omega)
    have hres : (⟨(Lib.itoa (-(k : Int))).toArray⟩ : ByteArray) = ⟨#[45]⟩ ++ (⟨(Lib.decDigits k).toArray⟩ : ByteArray) := by
      rw [Lib.itoa_neg k (by omega)]
      exact (cat_bytes [45] _).symm
    rw [hres]
    obtain ⟨X, hX⟩ : ∃ X : ByteArray, ⟨(Lib.decDigits k).toArray⟩ = X := ⟨_, rfl⟩
    rw [hX] at D hlen
    rw [hX]
    have hcat : ¬ 9223372036854775807 < 1 + X.size := by omega
    have e1 : IntKind.i64.wrap (k : Int) = (k : Int) := wr64 (by omega) (by omega)
    clear hX hres
    go_enter Tryz.func34, Tryz.ntmps34
    go_wp2_with (first | (go_at_call 34; refine (D.out _).mono ?_; rintro e w' ⟨rfl, hb⟩))
    go_ret
    exact ⟨rfl, hb⟩
  · obtain ⟨k, rfl⟩ := Int.eq_ofNat_of_zero_le (show 0 ≤ n by omega)
    rw [Lib.itoa_nonneg]
    exact dec_pos k w (by omega)
theorem itoa_size (n : Int) (h1 : -1000000000000000000 < n) (h2 : n < 1000000000000000000) : (⟨(Lib.itoa n).toArray⟩ : ByteArray).size ≤ 19 := by
  by_cases hn : n < 0
  · obtain ⟨k, hk⟩ : ∃ k : Nat, -n = (k : Int) := ⟨(-n).toNat, by omega⟩
    obtain rfl : n = -(k : Int) := by omega
    rw [Lib.itoa_neg k (by omega)]
    have := dec_size 18 k (by omega) (by omega)
    show (45 :: Lib.decDigits k).length ≤ 19
    have e : (Lib.decDigits k).length ≤ 18 := this
    simp; omega
  · obtain ⟨k, rfl⟩ := Int.eq_ofNat_of_zero_le (show 0 ≤ n by omega)
    rw [Lib.itoa_nonneg]
    have := dec_size 18 k (by omega) (by omega)
    omega
/-- The reference's text of a register. -/
def rgT (n : Int) : ByteArray := ⟨(32 :: 114 :: Lib.itoa n).toArray⟩
set_option maxRecDepth 100000 in
theorem reg_ref (n : Int) (w : World) (h1 : -1000000000000000000 < n) (h2 : n < 1000000000000000000) : Calls Tryz.prog 35 #[.int .i64 n] w fun e w' => e = .returned (.string (rgT n)) ∧ Below w.heap.size w w' := by
  have D := Lib.hid (fun w => dec_ref n w h1 h2)
  have hlen := itoa_size n h1 h2
  have hres : rgT n = ⟨#[32, 114]⟩ ++ (⟨(Lib.itoa n).toArray⟩ : ByteArray) := (cat_bytes [32, 114] _).symm
  rw [hres]
  obtain ⟨X, hX⟩ : ∃ X : ByteArray, ⟨(Lib.itoa n).toArray⟩ = X := ⟨_, rfl⟩
  rw [hX] at D hlen
  rw [hX]
  have hcat : ¬ 9223372036854775807 < 2 + X.size := by omega
  clear hX hres
  go_enter Tryz.func35, Tryz.ntmps35
  go_wp2_with (first | (go_at_call 34; refine (D.out _).mono ?_; rintro e w' ⟨rfl, hb⟩))
  go_ret
  exact ⟨rfl, hb⟩
theorem nml_get (k : Nat) (h : k < (nml.map (fun l => Value.string ⟨l.toArray⟩)).length) : (nml.map (fun l => Value.string ⟨l.toArray⟩))[k] = .string (nm (k : Int)) := by
  have h' : k < nml.length := by simpa using h
  simp [nm, List.getD, List.getElem?_eq_getElem h']
set_option maxRecDepth 100000 in
theorem name_ref (k : Nat) (hk : k < 26) (w : World) : Calls Tryz.prog 33 #[.int .i64 (k : Int)] w fun e w' => e = .returned (.string (nm (k : Int))) ∧ Below w.heap.size w w' := by
  go_enter Tryz.func33, Tryz.ntmps33
  go_wp2
  go_ret
  exact ⟨congrArg Ending.returned (nml_get k hk), (Below.refl _ w).alloc (Nat.le_refl _) _⟩
theorem rgT_size (n : Int) (h1 : -1000000000000000000 < n) (h2 : n < 1000000000000000000) : (rgT n).size ≤ 21 := by
  have := itoa_size n h1 h2
  show (32 :: 114 :: Lib.itoa n).length ≤ 21
  have e : (Lib.itoa n).length ≤ 19 := this
  simp; omega
theorem vld_small {i : In} (h : vld i = true) : small i.imm := by
  obtain ⟨_, h1, _⟩ := vld_parts h
  have := fits_iff.1 (num_fits h1)
  unfold small
  simp at this
  omega
/-! ### The reference's text of an instruction -/
def TB (B : Nat) (W : World) (i0 i1 i2 i3 i4 : Int) (w : World) : Prop :=
  (w.cell? ⟨B, 0, none⟩ = some (.int .i64 i0) ∧ w.cell? ⟨B, 1, none⟩ = some (.int .i64 i1) ∧ w.cell? ⟨B, 2, none⟩ = some (.int .i64 i2) ∧ w.cell? ⟨B, 3, none⟩ = some (.int .i64 i3) ∧ w.cell? ⟨B, 4, none⟩ = some (.int .i32 i4)) ∧ B < w.heap.size ∧ Below B W w
theorem TB.keep {B : Nat} {W : World} {i0 i1 i2 i3 i4 : Int} {w w' : World} (h : TB B W i0 i1 i2 i3 i4 w) (hb : Below w.heap.size w w') : TB B W i0 i1 i2 i3 i4 w' := by
  obtain ⟨⟨h0, h1, h2, h3, h4⟩, hs, h5⟩ := h
  exact ⟨⟨(hb.cell hs).trans h0, (hb.cell hs).trans h1, (hb.cell hs).trans h2, (hb.cell hs).trans h3, (hb.cell hs).trans h4⟩, Nat.lt_of_lt_of_le hs hb.size, h5.trans (hb.mono (Nat.le_of_lt hs))⟩
theorem TB.new (W : World) (i : In) : TB W.heap.size W i.op i.rd i.ra i.rb i.imm (W.alloc (.cells #[.int .i64 i.op, .int .i64 i.rd, .int .i64 i.ra, .int .i64 i.rb, .int .i32 i.imm] 27)) :=
  ⟨⟨World.cell?_alloc_new _ _ _ _, World.cell?_alloc_new _ _ _ _, World.cell?_alloc_new _ _ _ _, World.cell?_alloc_new _ _ _ _, World.cell?_alloc_new _ _ _ _⟩, by simp, (Below.refl _ W).alloc (Nat.le_refl _) _⟩
set_option maxRecDepth 100000 in
set_option maxHeartbeats 4000000 in
theorem text_1 (i : In) (W : World) (hv : vld i = true) (hf : fmt i.op = 1) :
    Calls Tryz.prog 10 #[i.v] W fun e w' => e = .returned (.tuple #[.string (((nm i.op ++ rgT i.rd) ++ rgT i.ra) ++ rgT i.rb), .int .i64 0]) ∧ Below W.heap.size W w' := by
  have hb0 := vld_bounds hv
  have hsm := vld_small hv
  have M := Lib.hid (fun w => may_at i true w hsm hv)
  have hsm' := hsm
  unfold small at hsm'
  have R1 := Lib.hid (fun w => reg_ref i.rd w (by omega) (by omega))
  have R2 := Lib.hid (fun w => reg_ref i.ra w (by omega) (by omega))
  have R3 := Lib.hid (fun w => reg_ref i.rb w (by omega) (by omega))
  have D := Lib.hid (fun w => dec_ref i.imm w (by omega) (by omega))
  have FO := Lib.hid (fun w => form_at i.op _ w hf)
  obtain ⟨k, hk⟩ := Int.eq_ofNat_of_zero_le (show 0 ≤ i.op by omega)
  have NM := Lib.hid (fun w => name_ref k (by omega) w)
  rw [← hk] at NM
  have hnl : (nm i.op).size ≤ 8 := by rw [hk, Lib.size_eq]; exact nm_len k (by omega)
  have l1 : (rgT i.rd).size ≤ 21 := rgT_size _ (by omega) (by omega)
  have l2 : (rgT i.ra).size ≤ 21 := rgT_size _ (by omega) (by omega)
  have l3 : (rgT i.rb).size ≤ 21 := rgT_size _ (by omega) (by omega)
  have l4 := itoa_size i.imm (by omega) (by omega)
  have T := Lib.hid (TB.new W i)
  have e64 : IntKind.i64.wrap i.imm = i.imm := wr64 (by omega) (by omega)
  have f64 : wrap64 i.imm = i.imm := by unfold wrap64; omega
  clear hb0 hk hv hf hsm hsm'
  obtain ⟨i0, i1, i2, i3, i4⟩ := i
  dsimp only at *
  generalize nm i0 = N at *
  generalize rgT i1 = X1 at *
  generalize rgT i2 = X2 at *
  generalize rgT i3 = X3 at *
  generalize (⟨(Lib.itoa i4).toArray⟩ : ByteArray) = X4 at *
  have c1 : ¬ 9223372036854775807 < 1 + X4.size := by omega
  have c2 : ¬ 9223372036854775807 < N.size + X1.size := by omega
  have c3 : ¬ 9223372036854775807 < N.size + X1.size + X2.size := by omega
  have c4 : ¬ 9223372036854775807 < N.size + X1.size + X2.size + X3.size := by omega
  simp only [In.v] at *
  go_enter Tryz.func10, Tryz.ntmps10
  go_wp2_with fail
  refine (M.out _).mono ?_
  rintro e w1 ⟨rfl, hb⟩
  have T1 := Lib.hid (T.out.keep hb)
  have T := T1.out.1
  clear hb M
  go_wp2_with fail
  refine (NM.out _).mono ?_
  rintro e w2 ⟨rfl, hb⟩
  have T2 := Lib.hid (T1.out.keep hb)
  clear T
  have T := T2.out.1
  clear hb T1 NM
  go_wp2_with fail
  refine (D.out _).mono ?_
  rintro e w3 ⟨rfl, hb⟩
  have T3 := Lib.hid (T2.out.keep hb)
  clear T
  have T := T3.out.1
  clear hb T2
  go_wp2_with fail
  refine (FO.out _).mono ?_
  rintro e w4 ⟨rfl, ⟨n0, hw⟩⟩
  have T4 := Lib.hid (T3.out.keep (show Below w3.heap.size w3 w4 by rw [hw]; exact bdrew (Below.refl _ _) _))
  clear T
  have T := T4.out
  clear hw T3 FO
  go_wp2_with fail
  unfold TB at T
  go_region_held3 (fun w => (w.cell? ⟨W.heap.size, 0, none⟩ = some (.int .i64 i0) ∧ w.cell? ⟨W.heap.size, 1, none⟩ = some (.int .i64 i1) ∧ w.cell? ⟨W.heap.size, 2, none⟩ = some (.int .i64 i2) ∧ w.cell? ⟨W.heap.size, 3, none⟩ = some (.int .i64 i3) ∧ w.cell? ⟨W.heap.size, 4, none⟩ = some (.int .i32 i4)) ∧ W.heap.size < w.heap.size ∧ Below W.heap.size W w)
    (first | (exact TB.keep T4.out (Below.drew (Below.refl _ _))) | (exact TB.keep (by assumption) hbc) | go_keep)
    (first | (go_at_call_of 35 (Value.int .i64 i1); refine (R1.out _).mono ?_; rintro e w' ⟨rfl, hbc⟩) | (go_at_call_of 35 (Value.int .i64 i2); refine (R2.out _).mono ?_; rintro e w' ⟨rfl, hbc⟩) | (go_at_call_of 35 (Value.int .i64 i3); refine (R3.out _).mono ?_; rintro e w' ⟨rfl, hbc⟩))
  go_wp2
  go_ret2
  exact ⟨rfl, (show TB W.heap.size W i0 i1 i2 i3 i4 _ by assumption).2.2⟩
set_option maxRecDepth 100000 in
set_option maxHeartbeats 4000000 in
theorem text_2 (i : In) (W : World) (hv : vld i = true) (hf : fmt i.op = 2) :
    Calls Tryz.prog 10 #[i.v] W fun e w' => e = .returned (.tuple #[.string (((nm i.op ++ rgT i.rd) ++ rgT i.ra) ++ (⟨#[32]⟩ ++ (⟨(Lib.itoa i.imm).toArray⟩ : ByteArray))), .int .i64 0]) ∧ Below W.heap.size W w' := by
  have hb0 := vld_bounds hv
  have hsm := vld_small hv
  have M := Lib.hid (fun w => may_at i true w hsm hv)
  have hsm' := hsm
  unfold small at hsm'
  have R1 := Lib.hid (fun w => reg_ref i.rd w (by omega) (by omega))
  have R2 := Lib.hid (fun w => reg_ref i.ra w (by omega) (by omega))
  have R3 := Lib.hid (fun w => reg_ref i.rb w (by omega) (by omega))
  have D := Lib.hid (fun w => dec_ref i.imm w (by omega) (by omega))
  have FO := Lib.hid (fun w => form_at i.op _ w hf)
  obtain ⟨k, hk⟩ := Int.eq_ofNat_of_zero_le (show 0 ≤ i.op by omega)
  have NM := Lib.hid (fun w => name_ref k (by omega) w)
  rw [← hk] at NM
  have hnl : (nm i.op).size ≤ 8 := by rw [hk, Lib.size_eq]; exact nm_len k (by omega)
  have l1 : (rgT i.rd).size ≤ 21 := rgT_size _ (by omega) (by omega)
  have l2 : (rgT i.ra).size ≤ 21 := rgT_size _ (by omega) (by omega)
  have l3 : (rgT i.rb).size ≤ 21 := rgT_size _ (by omega) (by omega)
  have l4 := itoa_size i.imm (by omega) (by omega)
  have T := Lib.hid (TB.new W i)
  have e64 : IntKind.i64.wrap i.imm = i.imm := wr64 (by omega) (by omega)
  have f64 : wrap64 i.imm = i.imm := by unfold wrap64; omega
  clear hb0 hk hv hf hsm hsm'
  obtain ⟨i0, i1, i2, i3, i4⟩ := i
  dsimp only at *
  generalize nm i0 = N at *
  generalize rgT i1 = X1 at *
  generalize rgT i2 = X2 at *
  generalize rgT i3 = X3 at *
  generalize (⟨(Lib.itoa i4).toArray⟩ : ByteArray) = X4 at *
  have c1 : ¬ 9223372036854775807 < 1 + X4.size := by omega
  have c2 : ¬ 9223372036854775807 < N.size + X1.size := by omega
  have c3 : ¬ 9223372036854775807 < N.size + X1.size + X2.size := by omega
  have c4 : ¬ 9223372036854775807 < N.size + X1.size + X2.size + (1 + X4.size) := by omega
  simp only [In.v] at *
  go_enter Tryz.func10, Tryz.ntmps10
  go_wp2_with fail
  refine (M.out _).mono ?_
  rintro e w1 ⟨rfl, hb⟩
  have T1 := Lib.hid (T.out.keep hb)
  have T := T1.out.1
  clear hb M
  go_wp2_with fail
  refine (NM.out _).mono ?_
  rintro e w2 ⟨rfl, hb⟩
  have T2 := Lib.hid (T1.out.keep hb)
  clear T
  have T := T2.out.1
  clear hb T1 NM
  go_wp2_with fail
  refine (D.out _).mono ?_
  rintro e w3 ⟨rfl, hb⟩
  have T3 := Lib.hid (T2.out.keep hb)
  clear T
  have T := T3.out.1
  clear hb T2
  go_wp2_with fail
  refine (FO.out _).mono ?_
  rintro e w4 ⟨rfl, ⟨n0, hw⟩⟩
  have T4 := Lib.hid (T3.out.keep (show Below w3.heap.size w3 w4 by rw [hw]; exact bdrew (Below.refl _ _) _))
  clear T
  have T := T4.out
  clear hw T3 FO
  go_wp2_with fail
  unfold TB at T
  go_region_held3 (fun w => (w.cell? ⟨W.heap.size, 0, none⟩ = some (.int .i64 i0) ∧ w.cell? ⟨W.heap.size, 1, none⟩ = some (.int .i64 i1) ∧ w.cell? ⟨W.heap.size, 2, none⟩ = some (.int .i64 i2) ∧ w.cell? ⟨W.heap.size, 3, none⟩ = some (.int .i64 i3) ∧ w.cell? ⟨W.heap.size, 4, none⟩ = some (.int .i32 i4)) ∧ W.heap.size < w.heap.size ∧ Below W.heap.size W w)
    (first | (exact TB.keep T4.out (Below.drew (Below.refl _ _))) | (exact TB.keep (by assumption) hbc) | go_keep)
    (first | (go_at_call_of 35 (Value.int .i64 i1); refine (R1.out _).mono ?_; rintro e w' ⟨rfl, hbc⟩) | (go_at_call_of 35 (Value.int .i64 i2); refine (R2.out _).mono ?_; rintro e w' ⟨rfl, hbc⟩))
  go_wp2
  go_ret2
  exact ⟨rfl, (show TB W.heap.size W i0 i1 i2 i3 i4 _ by assumption).2.2⟩
set_option maxRecDepth 100000 in
set_option maxHeartbeats 4000000 in
theorem text_3 (i : In) (W : World) (hv : vld i = true) (hf : fmt i.op = 3) :
    Calls Tryz.prog 10 #[i.v] W fun e w' => e = .returned (.tuple #[.string ((nm i.op ++ rgT i.rd) ++ (⟨#[32]⟩ ++ (⟨(Lib.itoa i.imm).toArray⟩ : ByteArray))), .int .i64 0]) ∧ Below W.heap.size W w' := by
  have hb0 := vld_bounds hv
  have hsm := vld_small hv
  have M := Lib.hid (fun w => may_at i true w hsm hv)
  have hsm' := hsm
  unfold small at hsm'
  have R1 := Lib.hid (fun w => reg_ref i.rd w (by omega) (by omega))
  have R2 := Lib.hid (fun w => reg_ref i.ra w (by omega) (by omega))
  have R3 := Lib.hid (fun w => reg_ref i.rb w (by omega) (by omega))
  have D := Lib.hid (fun w => dec_ref i.imm w (by omega) (by omega))
  have FO := Lib.hid (fun w => form_at i.op _ w hf)
  obtain ⟨k, hk⟩ := Int.eq_ofNat_of_zero_le (show 0 ≤ i.op by omega)
  have NM := Lib.hid (fun w => name_ref k (by omega) w)
  rw [← hk] at NM
  have hnl : (nm i.op).size ≤ 8 := by rw [hk, Lib.size_eq]; exact nm_len k (by omega)
  have l1 : (rgT i.rd).size ≤ 21 := rgT_size _ (by omega) (by omega)
  have l2 : (rgT i.ra).size ≤ 21 := rgT_size _ (by omega) (by omega)
  have l3 : (rgT i.rb).size ≤ 21 := rgT_size _ (by omega) (by omega)
  have l4 := itoa_size i.imm (by omega) (by omega)
  have T := Lib.hid (TB.new W i)
  have e64 : IntKind.i64.wrap i.imm = i.imm := wr64 (by omega) (by omega)
  have f64 : wrap64 i.imm = i.imm := by unfold wrap64; omega
  clear hb0 hk hv hf hsm hsm'
  obtain ⟨i0, i1, i2, i3, i4⟩ := i
  dsimp only at *
  generalize nm i0 = N at *
  generalize rgT i1 = X1 at *
  generalize rgT i2 = X2 at *
  generalize rgT i3 = X3 at *
  generalize (⟨(Lib.itoa i4).toArray⟩ : ByteArray) = X4 at *
  have c1 : ¬ 9223372036854775807 < 1 + X4.size := by omega
  have c2 : ¬ 9223372036854775807 < N.size + X1.size := by omega
  have c3 : ¬ 9223372036854775807 < N.size + X1.size + (1 + X4.size) := by omega
  simp only [In.v] at *
  go_enter Tryz.func10, Tryz.ntmps10
  go_wp2_with fail
  refine (M.out _).mono ?_
  rintro e w1 ⟨rfl, hb⟩
  have T1 := Lib.hid (T.out.keep hb)
  have T := T1.out.1
  clear hb M
  go_wp2_with fail
  refine (NM.out _).mono ?_
  rintro e w2 ⟨rfl, hb⟩
  have T2 := Lib.hid (T1.out.keep hb)
  clear T
  have T := T2.out.1
  clear hb T1 NM
  go_wp2_with fail
  refine (D.out _).mono ?_
  rintro e w3 ⟨rfl, hb⟩
  have T3 := Lib.hid (T2.out.keep hb)
  clear T
  have T := T3.out.1
  clear hb T2
  go_wp2_with fail
  refine (FO.out _).mono ?_
  rintro e w4 ⟨rfl, ⟨n0, hw⟩⟩
  have T4 := Lib.hid (T3.out.keep (show Below w3.heap.size w3 w4 by rw [hw]; exact bdrew (Below.refl _ _) _))
  clear T
  have T := T4.out
  clear hw T3 FO
  unfold TB at T
  go_wp2_with fail
  refine (R1.out _).mono ?_
  rintro e w5 ⟨rfl, hb⟩
  have T5 := Lib.hid (T4.out.keep hb)
  clear T
  have T := T5.out.1
  go_wp2
  go_ret2
  exact ⟨rfl, T5.out.2.2⟩
set_option maxRecDepth 100000 in
set_option maxHeartbeats 4000000 in
theorem text_4 (i : In) (W : World) (hv : vld i = true) (hf : fmt i.op = 4) :
    Calls Tryz.prog 10 #[i.v] W fun e w' => e = .returned (.tuple #[.string (nm i.op), .int .i64 0]) ∧ Below W.heap.size W w' := by
  have hb0 := vld_bounds hv
  have hsm := vld_small hv
  have M := Lib.hid (fun w => may_at i true w hsm hv)
  have hsm' := hsm
  unfold small at hsm'
  have R1 := Lib.hid (fun w => reg_ref i.rd w (by omega) (by omega))
  have R2 := Lib.hid (fun w => reg_ref i.ra w (by omega) (by omega))
  have R3 := Lib.hid (fun w => reg_ref i.rb w (by omega) (by omega))
  have D := Lib.hid (fun w => dec_ref i.imm w (by omega) (by omega))
  have FO := Lib.hid (fun w => form_at i.op _ w hf)
  obtain ⟨k, hk⟩ := Int.eq_ofNat_of_zero_le (show 0 ≤ i.op by omega)
  have NM := Lib.hid (fun w => name_ref k (by omega) w)
  rw [← hk] at NM
  have hnl : (nm i.op).size ≤ 8 := by rw [hk, Lib.size_eq]; exact nm_len k (by omega)
  have l1 : (rgT i.rd).size ≤ 21 := rgT_size _ (by omega) (by omega)
  have l2 : (rgT i.ra).size ≤ 21 := rgT_size _ (by omega) (by omega)
  have l3 : (rgT i.rb).size ≤ 21 := rgT_size _ (by omega) (by omega)
  have l4 := itoa_size i.imm (by omega) (by omega)
  have T := Lib.hid (TB.new W i)
  have e64 : IntKind.i64.wrap i.imm = i.imm := wr64 (by omega) (by omega)
  have f64 : wrap64 i.imm = i.imm := by unfold wrap64; omega
  clear hb0 hk hv hf hsm hsm'
  obtain ⟨i0, i1, i2, i3, i4⟩ := i
  dsimp only at *
  generalize nm i0 = N at *
  generalize rgT i1 = X1 at *
  generalize rgT i2 = X2 at *
  generalize rgT i3 = X3 at *
  generalize (⟨(Lib.itoa i4).toArray⟩ : ByteArray) = X4 at *
  have c1 : ¬ 9223372036854775807 < 1 + X4.size := by omega
  simp only [In.v] at *
  go_enter Tryz.func10, Tryz.ntmps10
  go_wp2_with fail
  refine (M.out _).mono ?_
  rintro e w1 ⟨rfl, hb⟩
  have T1 := Lib.hid (T.out.keep hb)
  have T := T1.out.1
  clear hb M
  go_wp2_with fail
  refine (NM.out _).mono ?_
  rintro e w2 ⟨rfl, hb⟩
  have T2 := Lib.hid (T1.out.keep hb)
  clear T
  have T := T2.out.1
  clear hb T1 NM
  go_wp2_with fail
  refine (D.out _).mono ?_
  rintro e w3 ⟨rfl, hb⟩
  have T3 := Lib.hid (T2.out.keep hb)
  clear T
  have T := T3.out.1
  clear hb T2
  go_wp2_with fail
  refine (FO.out _).mono ?_
  rintro e w4 ⟨rfl, ⟨n0, hw⟩⟩
  have T4 := Lib.hid (T3.out.keep (show Below w3.heap.size w3 w4 by rw [hw]; exact bdrew (Below.refl _ _) _))
  clear T
  have T := T4.out
  clear hw T3 FO
  go_wp2
  go_ret2
  exact ⟨rfl, T4.out.2.2⟩
set_option maxRecDepth 100000 in
set_option maxHeartbeats 4000000 in
theorem text_5 (i : In) (W : World) (hv : vld i = true) (hf : fmt i.op = 5) :
    Calls Tryz.prog 10 #[i.v] W fun e w' => e = .returned (.tuple #[.string (((nm i.op ++ rgT i.rd) ++ ⟨#[32, 99]⟩) ++ (⟨(Lib.itoa i.imm).toArray⟩ : ByteArray)), .int .i64 0]) ∧ Below W.heap.size W w' := by
  have hb0 := vld_bounds hv
  have hsm := vld_small hv
  have M := Lib.hid (fun w => may_at i true w hsm hv)
  have hsm' := hsm
  unfold small at hsm'
  have R1 := Lib.hid (fun w => reg_ref i.rd w (by omega) (by omega))
  have R2 := Lib.hid (fun w => reg_ref i.ra w (by omega) (by omega))
  have R3 := Lib.hid (fun w => reg_ref i.rb w (by omega) (by omega))
  have D := Lib.hid (fun w => dec_ref i.imm w (by omega) (by omega))
  have FO := Lib.hid (fun w => form_at i.op _ w hf)
  obtain ⟨k, hk⟩ := Int.eq_ofNat_of_zero_le (show 0 ≤ i.op by omega)
  have NM := Lib.hid (fun w => name_ref k (by omega) w)
  rw [← hk] at NM
  have hnl : (nm i.op).size ≤ 8 := by rw [hk, Lib.size_eq]; exact nm_len k (by omega)
  have l1 : (rgT i.rd).size ≤ 21 := rgT_size _ (by omega) (by omega)
  have l2 : (rgT i.ra).size ≤ 21 := rgT_size _ (by omega) (by omega)
  have l3 : (rgT i.rb).size ≤ 21 := rgT_size _ (by omega) (by omega)
  have l4 := itoa_size i.imm (by omega) (by omega)
  have T := Lib.hid (TB.new W i)
  have e64 : IntKind.i64.wrap i.imm = i.imm := wr64 (by omega) (by omega)
  have f64 : wrap64 i.imm = i.imm := by unfold wrap64; omega
  clear hb0 hk hv hf hsm hsm'
  obtain ⟨i0, i1, i2, i3, i4⟩ := i
  dsimp only at *
  generalize nm i0 = N at *
  generalize rgT i1 = X1 at *
  generalize rgT i2 = X2 at *
  generalize rgT i3 = X3 at *
  generalize (⟨(Lib.itoa i4).toArray⟩ : ByteArray) = X4 at *
  have c1 : ¬ 9223372036854775807 < 1 + X4.size := by omega
  have c2 : ¬ 9223372036854775807 < N.size + X1.size := by omega
  have c3 : ¬ 9223372036854775807 < N.size + X1.size + 2 := by omega
  have c4 : ¬ 9223372036854775807 < N.size + X1.size + 2 + X4.size := by omega
  simp only [In.v] at *
  go_enter Tryz.func10, Tryz.ntmps10
  go_wp2_with fail
  refine (M.out _).mono ?_
  rintro e w1 ⟨rfl, hb⟩
  have T1 := Lib.hid (T.out.keep hb)
  have T := T1.out.1
  clear hb M
  go_wp2_with fail
  refine (NM.out _).mono ?_
  rintro e w2 ⟨rfl, hb⟩
  have T2 := Lib.hid (T1.out.keep hb)
  clear T
  have T := T2.out.1
  clear hb T1 NM
  go_wp2_with fail
  refine (D.out _).mono ?_
  rintro e w3 ⟨rfl, hb⟩
  have T3 := Lib.hid (T2.out.keep hb)
  clear T
  have T := T3.out.1
  clear hb T2
  go_wp2_with fail
  refine (FO.out _).mono ?_
  rintro e w4 ⟨rfl, ⟨n0, hw⟩⟩
  have T4 := Lib.hid (T3.out.keep (show Below w3.heap.size w3 w4 by rw [hw]; exact bdrew (Below.refl _ _) _))
  clear T
  have T := T4.out
  clear hw T3 FO
  go_wp2_with fail
  unfold TB at T
  go_region_held3 (fun w => (w.cell? ⟨W.heap.size, 0, none⟩ = some (.int .i64 i0) ∧ w.cell? ⟨W.heap.size, 1, none⟩ = some (.int .i64 i1) ∧ w.cell? ⟨W.heap.size, 2, none⟩ = some (.int .i64 i2) ∧ w.cell? ⟨W.heap.size, 3, none⟩ = some (.int .i64 i3) ∧ w.cell? ⟨W.heap.size, 4, none⟩ = some (.int .i32 i4)) ∧ W.heap.size < w.heap.size ∧ Below W.heap.size W w)
    (first | (exact TB.keep T4.out (Below.drew (Below.refl _ _))) | (exact TB.keep (by assumption) hbc) | go_keep)
    (first | (go_at_call_of 35 (Value.int .i64 i1); refine (R1.out _).mono ?_; rintro e w' ⟨rfl, hbc⟩) | (go_at_call_of 34 (Value.int .i64 i4); refine (D.out _).mono ?_; rintro e w' ⟨rfl, hbc⟩))
  go_wp2
  go_ret2
  exact ⟨rfl, (show TB W.heap.size W i0 i1 i2 i3 i4 _ by assumption).2.2⟩
set_option maxRecDepth 100000 in
set_option maxHeartbeats 4000000 in
theorem text_6 (i : In) (W : World) (hv : vld i = true) (hf : fmt i.op = 6) :
    Calls Tryz.prog 10 #[i.v] W fun e w' => e = .returned (.tuple #[.string (((nm i.op ++ ⟨#[32, 99]⟩) ++ (⟨(Lib.itoa i.imm).toArray⟩ : ByteArray)) ++ rgT i.ra), .int .i64 0]) ∧ Below W.heap.size W w' := by
  have hb0 := vld_bounds hv
  have hsm := vld_small hv
  have M := Lib.hid (fun w => may_at i true w hsm hv)
  have hsm' := hsm
  unfold small at hsm'
  have R1 := Lib.hid (fun w => reg_ref i.rd w (by omega) (by omega))
  have R2 := Lib.hid (fun w => reg_ref i.ra w (by omega) (by omega))
  have R3 := Lib.hid (fun w => reg_ref i.rb w (by omega) (by omega))
  have D := Lib.hid (fun w => dec_ref i.imm w (by omega) (by omega))
  have FO := Lib.hid (fun w => form_at i.op _ w hf)
  obtain ⟨k, hk⟩ := Int.eq_ofNat_of_zero_le (show 0 ≤ i.op by omega)
  have NM := Lib.hid (fun w => name_ref k (by omega) w)
  rw [← hk] at NM
  have hnl : (nm i.op).size ≤ 8 := by rw [hk, Lib.size_eq]; exact nm_len k (by omega)
  have l1 : (rgT i.rd).size ≤ 21 := rgT_size _ (by omega) (by omega)
  have l2 : (rgT i.ra).size ≤ 21 := rgT_size _ (by omega) (by omega)
  have l3 : (rgT i.rb).size ≤ 21 := rgT_size _ (by omega) (by omega)
  have l4 := itoa_size i.imm (by omega) (by omega)
  have T := Lib.hid (TB.new W i)
  have e64 : IntKind.i64.wrap i.imm = i.imm := wr64 (by omega) (by omega)
  have f64 : wrap64 i.imm = i.imm := by unfold wrap64; omega
  clear hb0 hk hv hf hsm hsm'
  obtain ⟨i0, i1, i2, i3, i4⟩ := i
  dsimp only at *
  generalize nm i0 = N at *
  generalize rgT i1 = X1 at *
  generalize rgT i2 = X2 at *
  generalize rgT i3 = X3 at *
  generalize (⟨(Lib.itoa i4).toArray⟩ : ByteArray) = X4 at *
  have c1 : ¬ 9223372036854775807 < 1 + X4.size := by omega
  have c2 : ¬ 9223372036854775807 < N.size + 2 := by omega
  have c3 : ¬ 9223372036854775807 < N.size + 2 + X4.size := by omega
  have c4 : ¬ 9223372036854775807 < N.size + 2 + X4.size + X2.size := by omega
  simp only [In.v] at *
  go_enter Tryz.func10, Tryz.ntmps10
  go_wp2_with fail
  refine (M.out _).mono ?_
  rintro e w1 ⟨rfl, hb⟩
  have T1 := Lib.hid (T.out.keep hb)
  have T := T1.out.1
  clear hb M
  go_wp2_with fail
  refine (NM.out _).mono ?_
  rintro e w2 ⟨rfl, hb⟩
  have T2 := Lib.hid (T1.out.keep hb)
  clear T
  have T := T2.out.1
  clear hb T1 NM
  go_wp2_with fail
  refine (D.out _).mono ?_
  rintro e w3 ⟨rfl, hb⟩
  have T3 := Lib.hid (T2.out.keep hb)
  clear T
  have T := T3.out.1
  clear hb T2
  go_wp2_with fail
  refine (FO.out _).mono ?_
  rintro e w4 ⟨rfl, ⟨n0, hw⟩⟩
  have T4 := Lib.hid (T3.out.keep (show Below w3.heap.size w3 w4 by rw [hw]; exact bdrew (Below.refl _ _) _))
  clear T
  have T := T4.out
  clear hw T3 FO
  go_wp2_with fail
  unfold TB at T
  go_region_held3 (fun w => (w.cell? ⟨W.heap.size, 0, none⟩ = some (.int .i64 i0) ∧ w.cell? ⟨W.heap.size, 1, none⟩ = some (.int .i64 i1) ∧ w.cell? ⟨W.heap.size, 2, none⟩ = some (.int .i64 i2) ∧ w.cell? ⟨W.heap.size, 3, none⟩ = some (.int .i64 i3) ∧ w.cell? ⟨W.heap.size, 4, none⟩ = some (.int .i32 i4)) ∧ W.heap.size < w.heap.size ∧ Below W.heap.size W w)
    (first | (exact TB.keep T4.out (Below.drew (Below.refl _ _))) | (exact TB.keep (by assumption) hbc) | go_keep)
    (first | (go_at_call_of 34 (Value.int .i64 i4); refine (D.out _).mono ?_; rintro e w' ⟨rfl, hbc⟩) | (go_at_call_of 35 (Value.int .i64 i2); refine (R2.out _).mono ?_; rintro e w' ⟨rfl, hbc⟩))
  go_wp2
  go_ret2
  exact ⟨rfl, (show TB W.heap.size W i0 i1 i2 i3 i4 _ by assumption).2.2⟩
set_option maxRecDepth 100000 in
set_option maxHeartbeats 4000000 in
theorem text_7 (i : In) (W : World) (hv : vld i = true) (hf : fmt i.op = 7) :
    Calls Tryz.prog 10 #[i.v] W fun e w' => e = .returned (.tuple #[.string (nm i.op ++ rgT i.ra), .int .i64 0]) ∧ Below W.heap.size W w' := by
  have hb0 := vld_bounds hv
  have hsm := vld_small hv
  have M := Lib.hid (fun w => may_at i true w hsm hv)
  have hsm' := hsm
  unfold small at hsm'
  have R1 := Lib.hid (fun w => reg_ref i.rd w (by omega) (by omega))
  have R2 := Lib.hid (fun w => reg_ref i.ra w (by omega) (by omega))
  have R3 := Lib.hid (fun w => reg_ref i.rb w (by omega) (by omega))
  have D := Lib.hid (fun w => dec_ref i.imm w (by omega) (by omega))
  have FO := Lib.hid (fun w => form_at i.op _ w hf)
  obtain ⟨k, hk⟩ := Int.eq_ofNat_of_zero_le (show 0 ≤ i.op by omega)
  have NM := Lib.hid (fun w => name_ref k (by omega) w)
  rw [← hk] at NM
  have hnl : (nm i.op).size ≤ 8 := by rw [hk, Lib.size_eq]; exact nm_len k (by omega)
  have l1 : (rgT i.rd).size ≤ 21 := rgT_size _ (by omega) (by omega)
  have l2 : (rgT i.ra).size ≤ 21 := rgT_size _ (by omega) (by omega)
  have l3 : (rgT i.rb).size ≤ 21 := rgT_size _ (by omega) (by omega)
  have l4 := itoa_size i.imm (by omega) (by omega)
  have T := Lib.hid (TB.new W i)
  have e64 : IntKind.i64.wrap i.imm = i.imm := wr64 (by omega) (by omega)
  have f64 : wrap64 i.imm = i.imm := by unfold wrap64; omega
  clear hb0 hk hv hf hsm hsm'
  obtain ⟨i0, i1, i2, i3, i4⟩ := i
  dsimp only at *
  generalize nm i0 = N at *
  generalize rgT i1 = X1 at *
  generalize rgT i2 = X2 at *
  generalize rgT i3 = X3 at *
  generalize (⟨(Lib.itoa i4).toArray⟩ : ByteArray) = X4 at *
  have c1 : ¬ 9223372036854775807 < 1 + X4.size := by omega
  have c2 : ¬ 9223372036854775807 < N.size + X2.size := by omega
  simp only [In.v] at *
  go_enter Tryz.func10, Tryz.ntmps10
  go_wp2_with fail
  refine (M.out _).mono ?_
  rintro e w1 ⟨rfl, hb⟩
  have T1 := Lib.hid (T.out.keep hb)
  have T := T1.out.1
  clear hb M
  go_wp2_with fail
  refine (NM.out _).mono ?_
  rintro e w2 ⟨rfl, hb⟩
  have T2 := Lib.hid (T1.out.keep hb)
  clear T
  have T := T2.out.1
  clear hb T1 NM
  go_wp2_with fail
  refine (D.out _).mono ?_
  rintro e w3 ⟨rfl, hb⟩
  have T3 := Lib.hid (T2.out.keep hb)
  clear T
  have T := T3.out.1
  clear hb T2
  go_wp2_with fail
  refine (FO.out _).mono ?_
  rintro e w4 ⟨rfl, ⟨n0, hw⟩⟩
  have T4 := Lib.hid (T3.out.keep (show Below w3.heap.size w3 w4 by rw [hw]; exact bdrew (Below.refl _ _) _))
  clear T
  have T := T4.out
  clear hw T3 FO
  unfold TB at T
  go_wp2_with fail
  refine (R2.out _).mono ?_
  rintro e w5 ⟨rfl, hb⟩
  have T5 := Lib.hid (T4.out.keep hb)
  clear T
  have T := T5.out.1
  go_wp2
  go_ret2
  exact ⟨rfl, T5.out.2.2⟩
theorem ba_cat (a b : ByteArray) : a ++ b = ⟨(a.data.toList ++ b.data.toList).toArray⟩ := by
  have := cat_bytes a.data.toList b.data.toList
  simpa using this
theorem vld_csr {i : In} (hv : vld i = true) (h : fmt i.op = 5 ∨ fmt i.op = 6) : 0 ≤ i.imm := by
  obtain ⟨op, rd, ra, rb, imm⟩ := i
  rcases h with h | h
  · rw [vld_5 h] at hv
    simp at hv
    show 0 ≤ imm
    omega
  · rw [vld_6 h] at hv
    simp at hv
    show 0 ≤ imm
    omega
theorem txt_ref (i : In) (hv : vld i = true) : txt i =
    (if fmt i.op = 1 then ((nm i.op ++ rgT i.rd) ++ rgT i.ra) ++ rgT i.rb
     else if fmt i.op = 2 then ((nm i.op ++ rgT i.rd) ++ rgT i.ra) ++ (⟨#[32]⟩ ++ (⟨(Lib.itoa i.imm).toArray⟩ : ByteArray))
     else if fmt i.op = 3 then (nm i.op ++ rgT i.rd) ++ (⟨#[32]⟩ ++ (⟨(Lib.itoa i.imm).toArray⟩ : ByteArray))
     else if fmt i.op = 5 then ((nm i.op ++ rgT i.rd) ++ ⟨#[32, 99]⟩) ++ (⟨(Lib.itoa i.imm).toArray⟩ : ByteArray)
     else if fmt i.op = 6 then ((nm i.op ++ ⟨#[32, 99]⟩) ++ (⟨(Lib.itoa i.imm).toArray⟩ : ByteArray)) ++ rgT i.ra
     else if fmt i.op = 7 then nm i.op ++ rgT i.ra else nm i.op) := by
  have hb := vld_bounds hv
  obtain ⟨d, hd⟩ := Int.eq_ofNat_of_zero_le (show 0 ≤ i.rd by omega)
  obtain ⟨a, ha⟩ := Int.eq_ofNat_of_zero_le (show 0 ≤ i.ra by omega)
  obtain ⟨b, hb'⟩ := Int.eq_ofNat_of_zero_le (show 0 ≤ i.rb by omega)
  have hcsr : fmt i.op = 5 ∨ fmt i.op = 6 → 0 ≤ i.imm := vld_csr hv
  have e1 : ∀ n : Nat, (rgT (n : Int)).data.toList = 32 :: 114 :: Lib.decDigits n := fun n => by unfold rgT; rw [Lib.itoa_nonneg]
  have e2 : ∀ (c : UInt8) (n : Nat), (tag c n).data.toList = c :: Lib.decDigits n := fun c n => rfl
  have hj : ∀ (x : List UInt8) (l : List (List UInt8)), Lib.join (x :: l) [32] = x ++ (l.flatMap (fun y => 32 :: y)) := fun x l => by
    induction l generalizing x with
    | nil => simp [Lib.join, List.intercalate]
    | cons y l ih => have := ih y; simp [Lib.join, List.intercalate] at this ⊢; simp [this]
  unfold txt parts
  rw [hd, ha, hb']
  simp only [Int.toNat_natCast]
  split
  · simp [hj, ba_cat, e1, e2]
  split
  · simp [hj, ba_cat, e1, e2]
  split
  · simp [hj, ba_cat, e1, e2]
  split
  · rename_i h
    obtain ⟨m, hm⟩ := Int.eq_ofNat_of_zero_le (hcsr (.inl h))
    rw [hm]
    simp only [Int.toNat_natCast, Lib.itoa_nonneg]
    simp [hj, ba_cat, e1, e2]
  split
  · rename_i h
    obtain ⟨m, hm⟩ := Int.eq_ofNat_of_zero_le (hcsr (.inr h))
    rw [hm]
    simp only [Int.toNat_natCast, Lib.itoa_nonneg]
    simp [hj, ba_cat, e1, e2]
  split
  · simp [hj, ba_cat, e1, e2]
  · simp [hj, ba_cat, e1, e2]
set_option maxRecDepth 100000 in
theorem text_no (i : In) (W : World) (hs : small i.imm) (hv : vld i = false) :
    Calls Tryz.prog 10 #[i.v] W fun e w' => e = .returned (.tuple #[.string .empty, .int .i64 1]) ∧ Below W.heap.size W w' := by
  have M := Lib.hid (fun w => may_at i false w hs hv)
  have T := Lib.hid (TB.new W i)
  obtain ⟨i0, i1, i2, i3, i4⟩ := i
  dsimp only at *
  simp only [In.v] at *
  go_enter Tryz.func10, Tryz.ntmps10
  go_wp2_with fail
  refine (M.out _).mono ?_
  rintro e w1 ⟨rfl, hb⟩
  have T1 := Lib.hid (T.out.keep hb)
  clear hb M
  go_wp2
  go_ret2
  exact ⟨rfl, T1.out.2.2⟩
/-- The reference's Text answers as Format does. -/
theorem text_ref (i : In) (W : World) (hs : small i.imm) :
    Calls Tryz.prog 10 #[i.v] W fun e w' => e = .returned (.tuple #[.string (fmtS i), .int .i64 (fmtE i)]) ∧ Below W.heap.size W w' := by
  unfold fmtS fmtE
  cases hv : vld i with
  | false =>
    simp only [Bool.false_eq_true, if_false]
    exact text_no i W hs hv
  | true =>
    simp only [if_true]
    rw [txt_ref i hv]
    rcases fmt_cases i.op with hf | hf | hf | hf | hf | hf | hf | hf
    · exact absurd hf (vld_parts hv).1
    · rw [if_pos hf]; exact text_1 i W hv hf
    · rw [if_neg (by omega), if_pos hf]; exact text_2 i W hv hf
    · rw [if_neg (by omega), if_neg (by omega), if_pos hf]; exact text_3 i W hv hf
    · rw [if_neg (by omega), if_neg (by omega), if_neg (by omega), if_neg (by omega), if_neg (by omega), if_neg (by omega)]; exact text_4 i W hv hf
    · rw [if_neg (by omega), if_neg (by omega), if_neg (by omega), if_pos hf]; exact text_5 i W hv hf
    · rw [if_neg (by omega), if_neg (by omega), if_neg (by omega), if_neg (by omega), if_pos hf]; exact text_6 i W hv hf
    · rw [if_neg (by omega), if_neg (by omega), if_neg (by omega), if_neg (by omega), if_neg (by omega), if_pos hf]; exact text_7 i W hv hf
end Go.Proofs.YtihnglgknncgpaaGreatDoor.Asm
