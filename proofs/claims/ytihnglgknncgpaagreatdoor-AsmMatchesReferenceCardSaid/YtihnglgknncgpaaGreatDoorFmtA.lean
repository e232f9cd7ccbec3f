/- asm.register and asm.control, walked. The text of an instruction. asm.Format, walked. asm.Format at an instruction of one register, walked. -/
import Derived.Test.YtihnglgknncgpaaGreatDoorIsaW3
import Derived.Test.YtihnglgknncgpaaGreatDoorShelf
import Derived.Laws.AppendOwn
import Derived.Maps.AppendAt
namespace Go.Proofs.YtihnglgknncgpaaGreatDoor.Asm
open Go Go.RowKit Go.Proofs.YtihnglgknncgpaaGreatDoor.PAsmEveryWordHasOneLine Go.Proofs.YtihnglgknncgpaaGreatDoorW.PrintWords Go.Proofs.YtihnglgknncgpaaGreatDoorW.PrintLast Go.Proofs.YtihnglgknncgpaaGreatDoorW.PrintMore Go.Proofs.YtihnglgknncgpaaGreatDoor.Bm Go.Proofs.YtihnglgknncgpaaGreatDoor.Isa
set_option linter.unusedVariables false
set_option linter.unusedSimpArgs false
/-- The letter and the decimal numeral. -/
def tag (c : UInt8) (n : Nat) : ByteArray := ⟨(c :: Lib.decDigits n).toArray⟩
theorem dec_len : ∀ n : Nat, n < 100 → (Lib.decDigits n).length ≤ 2 := by decide +kernel
theorem cat_tag (c : UInt8) (l : List UInt8) : (⟨#[c]⟩ : ByteArray) ++ (⟨l.toArray⟩ : ByteArray) = ⟨(c :: l).toArray⟩ := by
  apply ByteArray.ext
  show ((⟨#[c]⟩ : ByteArray) ++ (⟨l.toArray⟩ : ByteArray)).data = _
  rw [ByteArray.data_append]
  simp
set_option maxRecDepth 100000 in
theorem register_at (n : Nat) (hn : n < 100) (w : World) : Calls Tryz.prog 25 #[.int .i64 (n : Int)] w fun e w' => e = .returned (.string (tag 114 n)) ∧ w' = w := by
  have C := Tryz.strconv_Itoa_small n hn
  have h1 := dec_len n hn
  have h2 : ¬ 9223372036854775807 < 1 + (Lib.decDigits n).length := by omega
  go_enter Tryz.func25, Tryz.ntmps25
  go_wp2_with fail
  refine (C _).mono ?_
  rintro e w' ⟨rfl, rfl⟩
  go_wp2
  go_ret
  exact ⟨by rw [← cat_tag]; rfl, rfl⟩
set_option maxRecDepth 100000 in
theorem control_at (n : Nat) (hn : n < 100) (w : World) : Calls Tryz.prog 26 #[.int .i32 (n : Int)] w fun e w' => e = .returned (.string (tag 99 n)) ∧ w' = w := by
  have C := Tryz.strconv_Itoa_small n hn
  have h1 := dec_len n hn
  have h2 : ¬ 9223372036854775807 < 1 + (Lib.decDigits n).length := by omega
  go_enter Tryz.func26, Tryz.ntmps26
  go_wp2_with fail
  refine (C _).mono ?_
  rintro e w' ⟨rfl, rfl⟩
  go_wp2
  go_ret
  exact ⟨by rw [← cat_tag]; rfl, rfl⟩
/-- The mnemonics, by opcode. -/
def nml : List (List UInt8) := [[], [97, 100, 100], [115, 117, 98], [97, 110, 100], [111, 114], [120, 111, 114], [115, 108, 116], [115, 104, 108], [115, 104, 114], [97, 100, 100, 105], [108, 117, 105], [108, 119], [115, 119], [108, 98], [115, 98], [98, 101, 113], [98, 110, 101], [98, 108, 116], [106, 97, 108], [106, 97, 108, 114], [101, 99, 97, 108, 108], [99, 115, 114, 114], [99, 115, 114, 119], [101, 114, 101, 116], [104, 97, 108, 116], [111, 117, 116]]
/-- The mnemonic of an opcode. -/
def nm (op : Int) : ByteArray := ⟨(nml.getD op.toNat []).toArray⟩
/-- The table of the mnemonics, as its initialiser lays it. -/
structure Names (W : World) : Prop where
  names : ∀ i, i < 26 → W.cell? ⟨0, i, none⟩ = some (.string ⟨(nml.getD i []).toArray⟩)
/-- The fields of an instruction's text. -/
def parts (i : In) : List ByteArray :=
  if fmt i.op = 1 then [nm i.op, tag 114 i.rd.toNat, tag 114 i.ra.toNat, tag 114 i.rb.toNat]
  else if fmt i.op = 2 then [nm i.op, tag 114 i.rd.toNat, tag 114 i.ra.toNat, ⟨(Lib.itoa i.imm).toArray⟩]
  else if fmt i.op = 3 then [nm i.op, tag 114 i.rd.toNat, ⟨(Lib.itoa i.imm).toArray⟩]
  else if fmt i.op = 5 then [nm i.op, tag 114 i.rd.toNat, tag 99 i.imm.toNat]
  else if fmt i.op = 6 then [nm i.op, tag 99 i.imm.toNat, tag 114 i.ra.toNat]
  else if fmt i.op = 7 then [nm i.op, tag 114 i.ra.toNat]
  else [nm i.op]
/-- The text of a valid instruction. -/
def txt (i : In) : ByteArray := ⟨(Lib.join ((parts i).map (fun x => x.data.toList)) [32]).toArray⟩
theorem info9 : (Tryz.prog.info? 9).map (fun i => (i.zero, i.size, i.bytes)) = some (some (.string ByteArray.empty), 1, 16) := by kernel_rfl
theorem join_one (x s : List UInt8) : Lib.join [x] s = x := by simp [Lib.join, List.intercalate]
theorem nm_len : ∀ k : Nat, k < 26 → (nm (k : Int)).data.toList.length ≤ 8 := by decide +kernel
theorem names_at {W : World} (h : Names W) {op : Int} (h0 : 0 < op) (h1 : op < 26) : ∃ k : Nat, op = (k : Int) ∧ k < 26 ∧ W.cell? ⟨0, k, none⟩ = some (.string (nm op)) := by
  obtain ⟨k, rfl⟩ := Int.eq_ofNat_of_zero_le (show 0 ≤ op by omega)
  exact ⟨k, rfl, by omega, h.names k (by omega)⟩
theorem Names.below {W W' : World} {B : Nat} (h : Names W) (hb : Below B W W') (hB : 1 ≤ B) : Names W' := ⟨fun i hi => (hb.cell (p := ⟨0, i, none⟩) (by show 0 < B; omega)).trans (h.names i hi)⟩
set_option maxRecDepth 100000 in
set_option maxHeartbeats 4000000 in
theorem format_bad (i : In) (W : World) (hT : Tabs W) (hv : vld i = false) :
    Calls Tryz.prog 8 #[i.v] W fun e w' => e = .returned (.tuple #[.string ByteArray.empty, .int .i64 1]) ∧ Below W.heap.size W w' := by
  have V := Lib.hid (fun W hT => valid_at i false W hT hv)
  clear hv
  obtain ⟨i0, i1, i2, i3, i4⟩ := i
  simp only [In.v] at V ⊢
  have HT := Lib.hid hT
  clear hT
  go_enter Tryz.func8, Tryz.ntmps8
  go_wp2_with fail
  refine (V.out _ (HT.out.later ((Below.refl _ W).alloc (Nat.le_refl _) _))).mono ?_
  rintro e w1 ⟨rfl, hb⟩
  have B1 : Hid (Below W.heap.size W w1) := Lib.hid (((Below.refl _ W).alloc (Nat.le_refl _) _).trans (hb.mono (by simp)))
  clear hb
  go_wp2
  go_ret2
  exact ⟨rfl, B1.out⟩
set_option maxRecDepth 100000 in
set_option maxHeartbeats 4000000 in
theorem format_n (i : In) (W : World) (hT : Tabs W) (hN : Names W) (hv : vld i = true) (hf : fmt i.op = 4) :
    Calls Tryz.prog 8 #[i.v] W fun e w' => e = .returned (.tuple #[.string (txt i), .int .i64 0]) ∧ Below W.heap.size W w' := by
  have V := Lib.hid (fun W hT => valid_at i true W hT hv)
  have F := Lib.hid (fun W hT => format_at i.op 4 W hT hf)
  have hz : i.imm = 0 := by
    obtain ⟨_, h1, _⟩ := vld_parts hv
    rw [hf] at h1
    simpa [numOk, hasF, ptl] using h1
  have hb0 := vld_bounds hv
  obtain ⟨k, hk, hk26, hc⟩ := names_at hN hb0.1 hb0.2.1
  have ht : txt i = ⟨(Lib.join ([nm i.op].map (fun x => x.data.toList)) [32]).toArray⟩ := by
    unfold txt parts
    rw [hf]
    simp
  rw [ht]
  clear hv hf ht hb0 hN
  obtain ⟨i0, i1, i2, i3, i4⟩ := i
  dsimp only at hz hk hc
  subst hz
  subst hk
  simp only [In.v] at V F ⊢
  have HT := Lib.hid hT
  clear hT
  have hs0 : 0 < W.heap.size := by have := HT.out.size; omega
  have hNl := nm_len k hk26
  obtain ⟨N, hN⟩ : ∃ N, nm (k : Int) = N := ⟨_, rfl⟩
  rw [hN] at hNl
  rw [hN] at hc
  simp only [hN]
  go_enter Tryz.func8, Tryz.ntmps8
  go_wp2_with fail
  refine (V.out _ (HT.out.later ((Below.refl _ W).alloc (Nat.le_refl _) _))).mono ?_
  rintro e w1 ⟨rfl, hb⟩
  have B1 : Hid (Below W.heap.size W w1) := Lib.hid (((Below.refl _ W).alloc (Nat.le_refl _) _).trans (hb.mono (by simp)))
  have z1 : W.heap.size < w1.heap.size := by have := hb.size; simp at this; omega
  have a1 : ∀ j, w1.cell? ⟨W.heap.size, j, none⟩ = (#[.int .i64 (k : Int), .int .i64 i1, .int .i64 i2, .int .i64 i3, .int .i32 0] : Array Value)[j]? := fun j => (hb.cell (p := ⟨W.heap.size, j, none⟩) (by simp)).trans (World.cell?_alloc_new W _ _ j)
  have hc1 : w1.cell? ⟨0, k, none⟩ = some (.string N) := (B1.out.cell (p := ⟨0, k, none⟩) hs0).trans hc
  clear hb
  have z0 : 0 < w1.heap.size := by omega
  have q1 : (0 : Int) ≤ (k : Int) := by omega
  have q2 : (k : Int) < 26 := by omega
  have I := Tryz.strconv_Itoa_small 0 (by decide)
  have B2 : Hid (Below W.heap.size W (w1.alloc (.cells #[.string N] 9))) := Lib.hid (B1.out.alloc (by omega) _)
  go_wp2_with fail
  refine (I _).mono ?_
  rintro e w2 ⟨rfl, rfl⟩
  go_wp2_with fail
  refine (F.out _ (HT.out.later B2.out)).mono ?_
  rintro e w3 ⟨rfl, rfl⟩
  have J := Tryz.strings_Join w1.heap.size 0 1 [N] ⟨#[32]⟩ (w1.alloc (.cells #[.string N] 9)) (fun j x hj => by
    match j, hj with
    | 0, hj => simp at hj; subst hj; simp [World.cell?_alloc_new]) (by simp) (by simp) (by simp) ?hlen
  case hlen => rw [List.map_cons, List.map_nil, join_one]; omega
  go_wp2_with fail
  refine J.mono ?_
  rintro e w4 ⟨rfl, hb⟩
  have B4 : Hid (Below W.heap.size W w4) := Lib.hid (B2.out.trans (hb.mono B2.out.size))
  clear hb J
  go_wp2
  go_ret2
  exact ⟨rfl, B4.out⟩
theorem join_two (x y s : List UInt8) : Lib.join [x, y] s = x ++ (s ++ y) := by simp [Lib.join, List.intercalate]
theorem strs_of_row {n₀ : Nat} {W : World} {v : Value} {k : Nat} {xs : List ByteArray} (hk : xs.length = k) (h0 : 0 < k) (h : W.ownsRow n₀ 9 1 v k (xs.map Value.string)) :
    ∃ g cap, v = .slice (some ⟨g, 0, none⟩) k cap ∧ xs.length ≤ cap ∧ g < W.heap.size ∧ ∀ (j : Nat) x, xs[j]? = some x → W.cell? ⟨g, 0 + j, none⟩ = some (.string x) := by
  subst hk
  have h' := h
  rcases h.2 with ⟨_, h1⟩ | ⟨g, cap, cur, rfl, _, hh, hle, _⟩
  · omega
  · refine ⟨g, cap, rfl, hle, (Array.getElem?_eq_some_iff.1 hh).1, fun j x hx => ?_⟩
    have := h'.cells (g := g) rfl j (.string x) (by rw [List.getElem?_map, hx]; rfl)
    rw [← this, Nat.zero_add]
    congr 1
    unfold Addr.add
    split <;> simp_all
set_option maxRecDepth 100000 in
set_option maxHeartbeats 4000000 in
theorem format_a (i : In) (W : World) (hT : Tabs W) (hN : Names W) (hv : vld i = true) (hf : fmt i.op = 7) :
    Calls Tryz.prog 8 #[i.v] W fun e w' => e = .returned (.tuple #[.string (txt i), .int .i64 0]) ∧ Below W.heap.size W w' := by
  have V := Lib.hid (fun W hT => valid_at i true W hT hv)
  have F := Lib.hid (fun W hT => format_at i.op 7 W hT hf)
  have hz : i.imm = 0 := by
    obtain ⟨_, h1, _⟩ := vld_parts hv
    rw [hf] at h1
    simpa [numOk, hasF, ptl] using h1
  have hb0 := vld_bounds hv
  obtain ⟨k, hk, hk26, hc⟩ := names_at hN hb0.1 hb0.2.1
  have ht : txt i = ⟨(Lib.join ([nm i.op, tag 114 i.ra.toNat].map (fun x => x.data.toList)) [32]).toArray⟩ := by
    unfold txt parts
    rw [hf]
    simp
  rw [ht]
  have hra : 0 ≤ i.ra ∧ i.ra < 16 := ⟨hb0.2.2.2.2.1, hb0.2.2.2.2.2.1⟩
  clear hv hf ht hb0 hN
  obtain ⟨i0, i1, i2, i3, i4⟩ := i
  dsimp only at hz hk hc
  subst hz
  subst hk
  dsimp only at hra
  obtain ⟨a, rfl⟩ := Int.eq_ofNat_of_zero_le hra.1
  simp only [Int.toNat_natCast]
  have ha : a < 100 := by omega
  have hrg := register_at a ha
  have hdl := dec_len a ha
  have htl : (tag 114 a).data.toList.length ≤ 3 := by simp [tag]; omega
  obtain ⟨S, hS⟩ : ∃ S, tag 114 a = S := ⟨_, rfl⟩
  rw [hS] at hrg htl
  simp only [hS]
  clear hS hdl hra
  obtain ⟨i0x, hi, hz0, hz1, hz2⟩ := info_parts info9
  simp only [In.v] at V F ⊢
  have HT := Lib.hid hT
  clear hT
  have hs0 : 0 < W.heap.size := by have := HT.out.size; omega
  have hNl := nm_len k hk26
  obtain ⟨N, hN⟩ : ∃ N, nm (k : Int) = N := ⟨_, rfl⟩
  rw [hN] at hNl
  rw [hN] at hc
  simp only [hN]
  go_enter Tryz.func8, Tryz.ntmps8
  go_wp2_with fail
  refine (V.out _ (HT.out.later ((Below.refl _ W).alloc (Nat.le_refl _) _))).mono ?_
  rintro e w1 ⟨rfl, hb⟩
  have B1 : Hid (Below W.heap.size W w1) := Lib.hid (((Below.refl _ W).alloc (Nat.le_refl _) _).trans (hb.mono (by simp)))
  have z1 : W.heap.size < w1.heap.size := by have := hb.size; simp at this; omega
  have a1 : ∀ j, w1.cell? ⟨W.heap.size, j, none⟩ = (#[.int .i64 (k : Int), .int .i64 i1, .int .i64 (a : Int), .int .i64 i3, .int .i32 0] : Array Value)[j]? := fun j => (hb.cell (p := ⟨W.heap.size, j, none⟩) (by simp)).trans (World.cell?_alloc_new W _ _ j)
  have hc1 : w1.cell? ⟨0, k, none⟩ = some (.string N) := (B1.out.cell (p := ⟨0, k, none⟩) hs0).trans hc
  clear hb
  have z0 : 0 < w1.heap.size := by omega
  have q1 : (0 : Int) ≤ (k : Int) := by omega
  have q2 : (k : Int) < 26 := by omega
  have I := Tryz.strconv_Itoa_small 0 (by decide)
  have B2 : Hid (Below W.heap.size W (w1.alloc (.cells #[.string N] 9))) := Lib.hid (B1.out.alloc (by omega) _)
  go_wp2_with fail
  refine (I _).mono ?_
  rintro e w2 ⟨rfl, rfl⟩
  go_wp2_with fail
  refine (F.out _ (HT.out.later B2.out)).mono ?_
  rintro e w3 ⟨rfl, rfl⟩
  go_wp2_with fail
  refine (hrg _).mono ?_
  rintro e w4 ⟨rfl, rfl⟩
  have hown : (w1.alloc (.cells #[.string N] 9)).ownsRow W.heap.size 9 1 (.slice (some ⟨w1.heap.size, 0, none⟩) 1 1) 1 [.string N] :=
    ⟨rfl, .inr ⟨w1.heap.size, 1, #[.string N], rfl, by omega, by first | exact heap_alloc_new _ _ | exact World.heap_alloc_new _ _ | simp, Nat.le_refl _, by simp [maxLen], rfl, rfl⟩⟩
  have hnews : ∀ j u, [Value.string S][j]? = some u → ((w1.alloc (.cells #[.string N] 9)).alloc (.cells #[.string S] 9)).cell? ((⟨w1.heap.size + 1, 0, none⟩ : Addr).add j) = some u := by
    have := cell_one_new (w1.alloc (.cells #[.string N] 9)) (.string S) 9
    rw [World.size_alloc] at this
    exact this
  go_wp2_with (first
    | (at_builtin; refine wpList_append_own _ rfl _ _ 62 rfl W.heap.size 9 i0x (.string ByteArray.empty) 1 16 Tryz.underlying62 hi hz0 hz1 hz2 rfl (by decide) _ _ _ rfl (hown.alloc _) ⟨w1.heap.size + 1, 0, none⟩ 1 1 [.string S] rfl rfl hnews (fun x hx => by simp at hx; subst hx; rfl) (by simp [maxLen]) (by omega) (by simp; omega) ?_; intro v5 w5 hown5 hgrow5 hnil5
       have B5 : Hid (Below W.heap.size W w5) := Lib.hid (Below.grown (B2.out.alloc B2.out.size _) hgrow5 (by simp; omega) (fun j hj => (hown.lt _ hj).1))
       obtain ⟨g, d, rfl, hgd, hgl, hgc⟩ := strs_of_row (k := 2) (xs := [N, S]) rfl (by omega) hown5
       clear hown5 hgrow5 hnil5 hown hnews))
  have J := Tryz.strings_Join g 0 d [N, S] ⟨#[32]⟩ w5 hgc hgl (by simp) hgd ?hlen
  case hlen => rw [List.map_cons, List.map_cons, List.map_nil, join_two, List.length_append, List.length_append]; simp only [List.length_cons, List.length_nil]; omega
  go_wp2_with fail
  refine J.mono ?_
  rintro e w6 ⟨rfl, hb⟩
  have B6 : Hid (Below W.heap.size W w6) := Lib.hid (B5.out.trans (hb.mono B5.out.size))
  clear hb J
  go_wp2
  go_ret2
  exact ⟨rfl, B6.out⟩
end Go.Proofs.YtihnglgknncgpaaGreatDoor.Asm
