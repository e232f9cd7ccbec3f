/- The law's examples (awake) hold, and IsPrivileged is what the reference says. -/
import Derived.Test.YtpajnomngjllpaaDoorIsaW6
namespace Go.Proofs.YtpajnomngjllpaaDoor.Isa
open Go Go.RowKit Go.Proofs.YtpajnomngjllpaaDoor.PIsaUnusedBitsMustBeZero Go.Proofs.YtpajnomngjllpaaDoorW.PrintWords Go.Proofs.YtpajnomngjllpaaDoorW.PrintLast Go.Proofs.YtpajnomngjllpaaDoorW.PrintMore Go.Proofs.YtpajnomngjllpaaDoor.Bm
set_option linter.unusedVariables false
set_option linter.unusedSimpArgs false
theorem bcell {W w1 : World} (hb : Below W.heap.size W w1) : (∀ b o, b < W.heap.size → w1.cell? ⟨b, o, none⟩ = W.cell? ⟨b, o, none⟩) ∧ (∀ b o, b < W.heap.size → w1.frozen? ⟨b, o, none⟩ = W.frozen? ⟨b, o, none⟩) :=
  ⟨fun b o h => hb.cell (p := ⟨b, o, none⟩) h, fun b o h => hb.frozen (p := ⟨b, o, none⟩) h⟩
theorem decode_at (w : Nat) (i : In) (b : Bool) (W : World) (hT : Tabs W) (hw : w < 2 ^ 32) (hi : decR w = i) (hb : decOk w = b) :
    Calls Tryd.prog 11 #[.int .u32 (w : Int)] W fun e w' => e = .returned (.tuple #[i.v, .bool b]) ∧ Below W.heap.size W w' := by
  subst hi hb; exact decode_any w W hT hw
theorem rdec_at (w : Nat) (i : In) (b : Bool) (W : World) (hw : w < 2 ^ 32) (hi : decR w = i) (hb : decOk w = b) :
    Calls Tryd.prog 12 #[.int .u32 (w : Int)] W fun e w' => e = .returned (.tuple #[i.v, .bool b]) ∧ Below W.heap.size W w' := by
  subst hi hb; exact rdec_any w W hw
/-- Is an opcode privileged? -/
def privB (op : Int) : Bool := decide (21 ≤ op) && decide (op ≤ 25)
theorem i_priv (op : Int) : isa_IsPrivileged.f op = some (privB op) := by
  unfold isa_IsPrivileged.f privB
  by_cases h : op ≥ 21
  · rw [if_pos h, decide_eq_true (show 21 ≤ op from h), Bool.true_and]
  · rw [if_neg h, decide_eq_false (show ¬ 21 ≤ op from h), Bool.false_and]
theorem priv_at (op : Int) (b : Bool) (w : World) (hb : privB op = b) : Calls Tryd.prog 15 #[.int .i64 op] w fun e w' => e = .returned (.bool b) ∧ ∃ n, w' = w.drewN n := by
  subst hb; exact (isa_IsPrivileged.calls _ _ _ (i_priv op)).mono fun _ _ ⟨he, hd⟩ => ⟨he, hd.out⟩
theorem priv_yes (op : Int) (w : World) (hb : privB op = true) : Calls Tryd.prog 16 #[.int .i64 op] w fun e w' => e = .returned (.bool true) ∧ w = w' := by
  have h : op = 21 ∨ op = 22 ∨ op = 23 ∨ op = 24 ∨ op = 25 := by simp [privB] at hb; omega
  clear hb
  rcases h with rfl | rfl | rfl | rfl | rfl
  all_goals
    go_enter Tryd.func16, Tryd.ntmps16
    go_wp2
    go_ret
    exact ⟨rfl, rfl⟩
theorem priv_no (op : Int) (w : World) (hb : privB op = false) : Calls Tryd.prog 16 #[.int .i64 op] w fun e w' => e = .returned (.bool false) ∧ w = w' := by
  have hn : ∀ c : Int, 21 ≤ c → c ≤ 25 → (op == c) = false := fun c h1 h2 => beq_eq_false_iff_ne.2 (fun e => by subst e; simp [privB] at hb; omega)
  have h1 := hn 21 (by omega) (by omega)
  have h2 := hn 22 (by omega) (by omega)
  have h3 := hn 23 (by omega) (by omega)
  have h4 := hn 24 (by omega) (by omega)
  have h5 := hn 25 (by omega) (by omega)
  clear hn hb
  go_enter Tryd.func16, Tryd.ntmps16
  go_wp2
  go_ret
  exact ⟨by simp [*], rfl⟩
theorem rpriv_at (op : Int) (b : Bool) (w : World) (hb : privB op = b) : Calls Tryd.prog 16 #[.int .i64 op] w fun e w' => e = .returned (.bool b) ∧ w = w' := by
  cases b
  · exact priv_no op w hb
  · exact priv_yes op w hb
/-- What a block holds is kept over a call. -/
theorem keep0 {w w1 : World} {b : Nat} {c : Nat → Option Value} (hb : Below w.heap.size w w1) (hlt : b < w.heap.size) (A : ∀ j, w.cell? ⟨b, j, none⟩ = c j) : ∀ j, w1.cell? ⟨b, j, none⟩ = c j :=
  fun j => (hb.cell (p := ⟨b, j, none⟩) hlt).trans (A j)
theorem keep1 {w : World} {o : Obj} {b : Nat} {c : Nat → Option Value} (hlt : b < w.heap.size) (A : ∀ j, w.cell? ⟨b, j, none⟩ = c j) : ∀ j, (w.alloc o).cell? ⟨b, j, none⟩ = c j :=
  fun j => (World.cell?_alloc_lt _ _ ⟨b, j, none⟩ hlt).trans (A j)
theorem keepD {w : World} {n b : Nat} {c : Nat → Option Value} (A : ∀ j, w.cell? ⟨b, j, none⟩ = c j) : ∀ j, (w.drewN n).cell? ⟨b, j, none⟩ = c j := A
theorem keepN (w : World) (C : Array Value) (t : TypeId) : ∀ j, (w.alloc (.cells C t)).cell? ⟨w.heap.size, j, none⟩ = C[j]? := fun j => World.cell?_alloc_new w C t j
set_option maxRecDepth 100000 in
set_option maxHeartbeats 2000000 in
theorem awake_any (W : World) (hT : Tabs W) : Calls Tryd.prog 8 #[] W fun e w' => e = .returned (.bool true) ∧ Below W.heap.size W w' := by
  have E1 := Lib.hid (fun W hT => encode_at ⟨9, 1, 2, 0, -1⟩ 608960511 true W hT (by decide) (by decide))
  have D1 := Lib.hid (fun W hT => decode_at 608960511 ⟨9, 1, 2, 0, -1⟩ true W hT (by decide) (by decide) (by decide))
  have D2 := Lib.hid (fun W hT => decode_at 0 nilI false W hT (by decide) (by decide) (by decide))
  have D3 := Lib.hid (fun W hT => decode_at 1342177281 nilI false W hT (by decide) (by decide) (by decide))
  have E2 := Lib.hid (fun W hT => encode_at ⟨1, 15, 0, 3, 0⟩ 130023427 true W hT (by decide) (by decide))
  have V1 := Lib.hid (fun W hT => valid_at ⟨9, 1, 2, 0, -1⟩ true W hT (by decide))
  have V2 := Lib.hid (fun W hT => valid_at ⟨21, 0, 0, 0, 12⟩ false W hT (by decide))
  have V3 := Lib.hid (fun W hT => valid_at ⟨1, 0, 0, 0, 1⟩ false W hT (by decide))
  simp only [In.v, nilI] at E1 D1 D2 D3 E2 V1 V2 V3
  have HT := Lib.hid hT
  clear hT
  go_enter Tryd.func8, Tryd.ntmps8
  go_wp2_with fail
  refine (E1.out _ (HT.out.later ((Below.refl _ W).alloc (Nat.le_refl _) _))).mono ?_
  rintro e w1 ⟨rfl, hb⟩
  have B1 : Hid (Below W.heap.size W w1) := Lib.hid (((Below.refl _ W).alloc (Nat.le_refl _) _).trans (hb.mono (by simp)))
  have z1 : W.heap.size < w1.heap.size := by have := hb.size; simp at this; omega
  have a1 := keep0 hb (by simp) (keepN W _ _)
  clear hb
  go_wp2_with fail
  refine (D1.out _ (HT.out.later B1.out)).mono ?_
  rintro e w2 ⟨rfl, hb⟩
  have B2 : Hid (Below W.heap.size W w2) := Lib.hid (B1.out.trans (hb.mono (by omega)))
  have z2 : W.heap.size < w2.heap.size := by have := hb.size; omega
  have a2 := keep0 hb z1 a1
  clear hb a1
  go_wp2_with fail
  refine (D2.out _ (HT.out.later (by repeat (first | exact B2.out | refine bdrew ?_ _ | refine Below.alloc ?_ (by first | omega | (simp; omega)) _)))).mono ?_
  rintro e w3 ⟨rfl, hb⟩
  have B3 : Hid (Below W.heap.size W w3) := Lib.hid (Below.trans (by repeat (first | exact B2.out | refine bdrew ?_ _ | refine Below.alloc ?_ (by first | omega | (simp; omega)) _)) (hb.mono (by first | omega | (simp; omega))))
  have z3 : w2.heap.size + 1 ≤ w3.heap.size := by have := hb.size; first | omega | (simp at this; omega)
  have a3 := keep0 hb (by first | (simp; omega) | simp | omega) (keep1 (by omega) a2)
  have t3 := keep0 hb (by first | (simp; omega) | simp | omega) (keepN w2 _ _)
  clear hb a2
  go_wp2_with fail
  refine (D3.out _ (HT.out.later (by repeat (first | exact B3.out | refine bdrew ?_ _ | refine Below.alloc ?_ (by first | omega | (simp; omega)) _)))).mono ?_
  rintro e w4 ⟨rfl, hb⟩
  have B4 : Hid (Below W.heap.size W w4) := Lib.hid (Below.trans (by repeat (first | exact B3.out | refine bdrew ?_ _ | refine Below.alloc ?_ (by first | omega | (simp; omega)) _)) (hb.mono (by first | omega | (simp; omega))))
  have z4 : w3.heap.size + 1 ≤ w4.heap.size := by have := hb.size; first | omega | (simp at this; omega)
  have a4 := keep0 hb (by first | (simp; omega) | simp | omega) (keep1 (by omega) a3)
  have t4 := keep0 hb (by first | (simp; omega) | simp | omega) (keep1 (by omega) t3)
  clear hb a3 t3
  go_wp2_with fail
  refine (E2.out _ (HT.out.later (by repeat (first | exact B4.out | refine bdrew ?_ _ | refine Below.alloc ?_ (by first | omega | (simp; omega)) _)))).mono ?_
  rintro e w5 ⟨rfl, hb⟩
  have B5 : Hid (Below W.heap.size W w5) := Lib.hid (Below.trans (by repeat (first | exact B4.out | refine bdrew ?_ _ | refine Below.alloc ?_ (by first | omega | (simp; omega)) _)) (hb.mono (by first | omega | (simp; omega))))
  have z5 : w4.heap.size + 1 ≤ w5.heap.size := by have := hb.size; first | omega | (simp at this; omega)
  have a5 := keep0 hb (by first | (simp; omega) | simp | omega) (keep1 (by omega) a4)
  have t5 := keep0 hb (by first | (simp; omega) | simp | omega) (keep1 (by omega) t4)
  clear hb a4 t4
  go_wp2_with fail
  refine (format_at 25 7 _ (HT.out.later (by repeat (first | exact B5.out | refine bdrew ?_ _ | refine Below.alloc ?_ (by first | omega | (simp; omega)) _))) (by decide)).mono ?_
  rintro e w' ⟨rfl, rfl⟩
  go_wp2_with fail
  refine (format_at 0 0 _ (HT.out.later (by repeat (first | exact B5.out | refine bdrew ?_ _ | refine Below.alloc ?_ (by first | omega | (simp; omega)) _))) (by decide)).mono ?_
  rintro e w' ⟨rfl, rfl⟩
  go_wp2_with fail
  refine (format_at 26 0 _ (HT.out.later (by repeat (first | exact B5.out | refine bdrew ?_ _ | refine Below.alloc ?_ (by first | omega | (simp; omega)) _))) (by decide)).mono ?_
  rintro e w' ⟨rfl, rfl⟩
  go_wp2_with fail
  refine (priv_at 23 true _ (by decide)).mono ?_
  rintro e w' ⟨rfl, ⟨n23, rfl⟩⟩
  go_wp2_with fail
  refine (priv_at 20 false _ (by decide)).mono ?_
  rintro e w' ⟨rfl, ⟨n20, rfl⟩⟩
  go_wp2_with fail
  refine (V1.out _ (HT.out.later (by repeat (first | exact B5.out | refine bdrew ?_ _ | refine Below.alloc ?_ (by first | omega | (simp; omega)) _)))).mono ?_
  rintro e w6 ⟨rfl, hb⟩
  have B6 : Hid (Below W.heap.size W w6) := Lib.hid (Below.trans (by repeat (first | exact B5.out | refine bdrew ?_ _ | refine Below.alloc ?_ (by first | omega | (simp; omega)) _)) (hb.mono (by first | omega | (simp; omega))))
  have z6 : w5.heap.size ≤ w6.heap.size := by have := hb.size; first | omega | (simp at this; omega)
  have a6 := keep0 hb (by first | (simp; omega) | simp | omega) a5
  have t6 := keep0 hb (by first | (simp; omega) | simp | omega) t5
  clear hb a5 t5
  go_wp2_with fail
  refine (V2.out _ (HT.out.later (by repeat (first | exact B6.out | refine bdrew ?_ _ | refine Below.alloc ?_ (by first | omega | (simp; omega)) _)))).mono ?_
  rintro e w7 ⟨rfl, hb⟩
  have B7 : Hid (Below W.heap.size W w7) := Lib.hid (Below.trans (by repeat (first | exact B6.out | refine bdrew ?_ _ | refine Below.alloc ?_ (by first | omega | (simp; omega)) _)) (hb.mono (by first | omega | (simp; omega))))
  have z7 : w6.heap.size ≤ w7.heap.size := by have := hb.size; first | omega | (simp at this; omega)
  have a7 := keep0 hb (by first | (simp; omega) | simp | omega) a6
  have t7 := keep0 hb (by first | (simp; omega) | simp | omega) t6
  clear hb a6 t6
  go_wp2_with fail
  refine (V3.out _ (HT.out.later (by repeat (first | exact B7.out | refine bdrew ?_ _ | refine Below.alloc ?_ (by first | omega | (simp; omega)) _)))).mono ?_
  rintro e w8 ⟨rfl, hb⟩
  have B8 : Hid (Below W.heap.size W w8) := Lib.hid (Below.trans (by repeat (first | exact B7.out | refine bdrew ?_ _ | refine Below.alloc ?_ (by first | omega | (simp; omega)) _)) (hb.mono (by first | omega | (simp; omega))))
  have z8 : w7.heap.size ≤ w8.heap.size := by have := hb.size; first | omega | (simp at this; omega)
  have a8 := keep0 hb (by first | (simp; omega) | simp | omega) a7
  have t8 := keep0 hb (by first | (simp; omega) | simp | omega) t7
  clear hb a7 t7
  go_wp2_with fail
  go_ret
  exact ⟨rfl, B8.out⟩
end Go.Proofs.YtpajnomngjllpaaDoor.Isa
