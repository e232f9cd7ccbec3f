/- The law IsaMatchesReference, walked. -/
import Derived.Test.YtpajnomngjllpaaDoorIsaW7
import Derived.Deep.RegionHeld3
namespace Go.Proofs.YtpajnomngjllpaaDoor.Isa
open Go Go.RowKit Go.Proofs.YtpajnomngjllpaaDoor.PIsaUnusedBitsMustBeZero Go.Proofs.YtpajnomngjllpaaDoorW.PrintWords Go.Proofs.YtpajnomngjllpaaDoorW.PrintLast Go.Proofs.YtpajnomngjllpaaDoorW.PrintMore Go.Proofs.YtpajnomngjllpaaDoor.Bm
set_option linter.unusedVariables false
set_option linter.unusedSimpArgs false
/-- What three blocks hold is kept over whatever only makes new memory. -/
theorem inv3 {W : World} {b0 b1 b2 : Nat} {c0 c1 c2 : Nat → Option Value} {w w' : World}
    (h : Below W.heap.size W w ∧ (b0 < w.heap.size ∧ b1 < w.heap.size ∧ b2 < w.heap.size) ∧ (∀ j, w.cell? ⟨b0, j, none⟩ = c0 j) ∧ (∀ j, w.cell? ⟨b1, j, none⟩ = c1 j) ∧ (∀ j, w.cell? ⟨b2, j, none⟩ = c2 j))
    (hb : Below w.heap.size w w') :
    Below W.heap.size W w' ∧ (b0 < w'.heap.size ∧ b1 < w'.heap.size ∧ b2 < w'.heap.size) ∧ (∀ j, w'.cell? ⟨b0, j, none⟩ = c0 j) ∧ (∀ j, w'.cell? ⟨b1, j, none⟩ = c1 j) ∧ (∀ j, w'.cell? ⟨b2, j, none⟩ = c2 j) :=
  ⟨h.1.trans (hb.mono h.1.size), ⟨Nat.lt_of_lt_of_le h.2.1.1 hb.size, Nat.lt_of_lt_of_le h.2.1.2.1 hb.size, Nat.lt_of_lt_of_le h.2.1.2.2 hb.size⟩, keep0 hb h.2.1.1 h.2.2.1, keep0 hb h.2.1.2.1 h.2.2.2.1, keep0 hb h.2.1.2.2 h.2.2.2.2⟩
set_option maxRecDepth 100000 in
set_option maxHeartbeats 4000000 in
theorem law1 (i : In) (w : Nat) (op : Int) (hw : w < 2 ^ 32) (hx : small i.imm) (W : World) (hT : Tabs W) :
    Calls Tryd.prog 3 #[i.v, .int .u32 (w : Int), .int .i64 op] W fun e w' => e = .returned (.bool true) ∧ Below W.heap.size W w' := by
  obtain ⟨r, hr⟩ : ∃ r, encR i = r := ⟨_, rfl⟩
  obtain ⟨ok, hok⟩ : ∃ ok, vld i = ok := ⟨_, rfl⟩
  obtain ⟨k, hk⟩ : ∃ k, decR w = k := ⟨_, rfl⟩
  obtain ⟨so, hso⟩ : ∃ so, decOk w = so := ⟨_, rfl⟩
  obtain ⟨f, hf⟩ : ∃ f, fmt op = f := ⟨_, rfl⟩
  obtain ⟨p, hp⟩ : ∃ p, privB op = p := ⟨_, rfl⟩
  have E := Lib.hid (fun W hT => encode_at i r ok W hT hr hok)
  have RE := Lib.hid (fun W => renc_at i r ok W hx hr hok)
  have D := Lib.hid (fun W hT => decode_at w k so W hT hw hk hso)
  have RD := Lib.hid (fun W => rdec_at w k so W hw hk hso)
  have V := Lib.hid (fun W hT => valid_at i ok W hT hok)
  have M := Lib.hid (fun W => may_at i ok W hx hok)
  have F := Lib.hid (fun W hT => format_at op f W hT hf)
  have RF := Lib.hid (fun W => form_at op f W hf)
  have P := Lib.hid (fun W => priv_at op p W hp)
  have RP := Lib.hid (fun W => rpriv_at op p W hp)
  clear hr hok hk hso hf hp hw hx
  obtain ⟨i0, i1, i2, i3, i4⟩ := i
  obtain ⟨k0, k1, k2, k3, k4⟩ := k
  simp only [In.v] at E RE D RD V M ⊢
  have HT := Lib.hid hT
  clear hT
  go_enter Tryd.func3, Tryd.ntmps3
  go_wp2_with fail
  refine (awake_any _ (HT.out.later ((Below.refl _ W).alloc (Nat.le_refl _) _))).mono ?_
  rintro e w1 ⟨rfl, hb⟩
  have B1 : Hid (Below W.heap.size W w1) := Lib.hid (((Below.refl _ W).alloc (Nat.le_refl _) _).trans (hb.mono (by simp)))
  have z1 : W.heap.size < w1.heap.size := by have := hb.size; simp at this; omega
  have a1 := keep0 hb (by simp) (keepN W _ _)
  clear hb
  go_wp2_with fail
  refine (E.out _ (HT.out.later B1.out)).mono ?_
  rintro e w2 ⟨rfl, hb⟩
  have B2 : Hid (Below W.heap.size W w2) := Lib.hid (B1.out.trans (hb.mono (by omega)))
  have z2 : W.heap.size < w2.heap.size := by have := hb.size; omega
  have a2 := keep0 hb z1 a1
  clear hb a1
  go_wp2_with fail
  refine (RE.out _).mono ?_
  rintro e w3 ⟨rfl, hb⟩
  have B3 : Hid (Below W.heap.size W w3) := Lib.hid (B2.out.trans (hb.mono (by omega)))
  have z3 : W.heap.size < w3.heap.size := by have := hb.size; omega
  have a3 := keep0 hb z2 a2
  clear hb a2
  go_wp2_with fail
  refine (D.out _ (HT.out.later B3.out)).mono ?_
  rintro e w4 ⟨rfl, hb⟩
  have B4 : Hid (Below W.heap.size W w4) := Lib.hid (B3.out.trans (hb.mono (by omega)))
  have z4 : W.heap.size < w4.heap.size := by have := hb.size; omega
  have a4 := keep0 hb z3 a3
  clear hb a3
  go_wp2_with fail
  refine (RD.out _).mono ?_
  rintro e w5 ⟨rfl, hb⟩
  have B5 : Hid (Below W.heap.size W w5) := Lib.hid ((B4.out.alloc (by omega) _).trans (hb.mono (by simp; omega)))
  have z5 : w4.heap.size + 1 ≤ w5.heap.size := by have := hb.size; simp at this; omega
  have a5 := keep0 hb (by simp; omega) (keep1 z4 a4)
  have t5 := keep0 hb (by simp) (keepN w4 _ _)
  clear hb a4
  go_wp2_with fail
  have hS0 : Below W.heap.size W (w5.alloc (.cells #[.int .i64 k0, .int .i64 k1, .int .i64 k2, .int .i64 k3, .int .i32 k4] 23)).drew ∧ (W.heap.size < (w5.alloc (.cells #[.int .i64 k0, .int .i64 k1, .int .i64 k2, .int .i64 k3, .int .i32 k4] 23)).drew.heap.size ∧ w4.heap.size < (w5.alloc (.cells #[.int .i64 k0, .int .i64 k1, .int .i64 k2, .int .i64 k3, .int .i32 k4] 23)).drew.heap.size ∧ w5.heap.size < (w5.alloc (.cells #[.int .i64 k0, .int .i64 k1, .int .i64 k2, .int .i64 k3, .int .i32 k4] 23)).drew.heap.size) ∧ (∀ j, (w5.alloc (.cells #[.int .i64 k0, .int .i64 k1, .int .i64 k2, .int .i64 k3, .int .i32 k4] 23)).drew.cell? ⟨W.heap.size, j, none⟩ = (#[.int .i64 i0, .int .i64 i1, .int .i64 i2, .int .i64 i3, .int .i32 i4] : Array Value)[j]?) ∧ (∀ j, (w5.alloc (.cells #[.int .i64 k0, .int .i64 k1, .int .i64 k2, .int .i64 k3, .int .i32 k4] 23)).drew.cell? ⟨w4.heap.size, j, none⟩ = (#[.int .i64 k0, .int .i64 k1, .int .i64 k2, .int .i64 k3, .int .i32 k4] : Array Value)[j]?) ∧ (∀ j, (w5.alloc (.cells #[.int .i64 k0, .int .i64 k1, .int .i64 k2, .int .i64 k3, .int .i32 k4] 23)).drew.cell? ⟨w5.heap.size, j, none⟩ = (#[.int .i64 k0, .int .i64 k1, .int .i64 k2, .int .i64 k3, .int .i32 k4] : Array Value)[j]?) :=
    ⟨(B5.out.alloc (by omega) _).drew, ⟨by simp; omega, by simp; omega, by simp⟩, keepD (n := 1) (keep1 (by omega) a5), keepD (n := 1) (keep1 (by omega) t5), keepD (n := 1) (keepN w5 _ _)⟩
  clear a5 t5
  go_region_held3 (fun w' => Below W.heap.size W w' ∧ (W.heap.size < w'.heap.size ∧ w4.heap.size < w'.heap.size ∧ w5.heap.size < w'.heap.size) ∧ (∀ j, w'.cell? ⟨W.heap.size, j, none⟩ = (#[.int .i64 i0, .int .i64 i1, .int .i64 i2, .int .i64 i3, .int .i32 i4] : Array Value)[j]?) ∧ (∀ j, w'.cell? ⟨w4.heap.size, j, none⟩ = (#[.int .i64 k0, .int .i64 k1, .int .i64 k2, .int .i64 k3, .int .i32 k4] : Array Value)[j]?) ∧ (∀ j, w'.cell? ⟨w5.heap.size, j, none⟩ = (#[.int .i64 k0, .int .i64 k1, .int .i64 k2, .int .i64 k3, .int .i32 k4] : Array Value)[j]?))
    (first | exact hS0 | exact hS | (apply inv3; assumption; exact ⟨rfl, rfl, rfl, Nat.le_refl _, fun _ _ => rfl⟩))
    (first | (go_at_call 13; refine (F.out _ (HT.out.later ?_)).mono ?_; (exact And.left (by assumption)); rintro e w' ⟨rfl, rfl⟩) | (go_at_call 14; refine (RF.out _).mono ?_; rintro e w' ⟨rfl, ⟨nq, rfl⟩⟩) | (go_at_call 15; refine (P.out _).mono ?_; rintro e w' ⟨rfl, ⟨nq, rfl⟩⟩) | (go_at_call 16; refine (RP.out _).mono ?_; rintro e w' ⟨rfl, rfl⟩) | (go_at_call 17; refine (V.out _ (HT.out.later ?_)).mono ?_; (exact And.left (by assumption)); rintro e w' ⟨rfl, hb⟩; have hS := inv3 (by assumption) hb) | (go_at_call 18; refine (M.out _).mono ?_; rintro e w' ⟨rfl, hb⟩; have hS := inv3 (by assumption) hb))
  all_goals go_wp2
  all_goals go_ret
  all_goals exact ⟨by simp, by repeat (first | exact And.left (by assumption) | refine bdrew ?_ _)⟩
end Go.Proofs.YtpajnomngjllpaaDoor.Isa
