/- gaolerref28.Get, walked. -/
import Derived.Test.YtnfkimhhgflfjaaDoorR38
import Derived.Test.YtnfkimhhgflfjaaDoorR35
namespace Go.Proofs.YtnfkimhhgflfjaaDoor.Rep
open Go Go.RowKit Go.Shelf
set_option linter.unusedVariables false
set_option linter.unusedSimpArgs false
/-! ### gaolerref28.Get, walked -/
theorem wordsA_len : ∀ (r f : List UInt8) (cur : List (List UInt8)), (wordsA f cur r).length ≤ r.length
  | [], _, _ => Nat.le_refl _
  | c :: r, f, cur => by
    unfold wordsA
    split
    · rw [List.length_cons, List.length_cons]; have := wordsA_len r [] []; omega
    · split
      · have := wordsA_len r [] (cur ++ [f]); rw [List.length_cons]; omega
      · have := wordsA_len r (f ++ [c]) cur; rw [List.length_cons]; omega
theorem wordsA_mem : ∀ (r f : List UInt8) (cur : List (List UInt8)) (n : Nat), f.length + r.length ≤ n → (∀ x ∈ cur, x.length ≤ n) → ∀ l ∈ wordsA f cur r, ∀ x ∈ l, x.length ≤ n
  | [], _, _, _, _, _ => fun l hl => by cases hl
  | c :: r, f, cur, n, hn, hc => by
    rw [List.length_cons] at hn
    have hcf : ∀ x ∈ cur ++ [f], x.length ≤ n := fun x hx => by
      rcases List.mem_append.1 hx with hx | hx
      · exact hc x hx
      · rw [List.mem_singleton] at hx; subst hx; omega
    unfold wordsA
    split
    · intro l hl
      rcases List.mem_cons.1 hl with rfl | hl
      · exact hcf
      · exact wordsA_mem r [] [] n (by simp; omega) (fun x hx => by cases hx) l hl
    · split
      · exact wordsA_mem r [] (cur ++ [f]) n (by simp; omega) hcf
      · exact wordsA_mem r (f ++ [c]) cur n (by rw [List.length_append, List.length_singleton]; omega) hc
theorem unhexG_len : ∀ (n : Nat) (l : List UInt8), l.length ≤ n → (unhexG l).length ≤ n
  | _, [], _ => Nat.zero_le _
  | _, [x], _ => Nat.zero_le _
  | n, a :: b :: r, h => by
    rw [List.length_cons, List.length_cons] at h
    unfold unhexG
    rw [List.length_cons]
    have := unhexG_len (n - 2) r (by omega)
    omega
theorem unhexG_drop {l : List UInt8} {i : Nat} {a b : UInt8} (ha : l[i]? = some a) (hb : l[i + 1]? = some b) : unhexG (l.drop i) = pvG a b :: unhexG (l.drop (i + 2)) := by
  rw [drop_get ha, drop_get hb, unhexG]
theorem unhexG_end {l : List UInt8} {i : Nat} (h : l.length ≤ i + 1) : unhexG (l.drop i) = [] := by
  have hl : (l.drop i).length ≤ 1 := by rw [List.length_drop]; omega
  cases hd : l.drop i with
  | nil => rfl
  | cons x r =>
    rw [hd] at hl
    cases r with
    | nil => rfl
    | cons y r => simp at hl
theorem foldG_out : ∀ (ls : List (List (List UInt8))) (k : Nat) (v : Vp) (n : Nat), v.out.length ≤ n → (∀ l ∈ ls, ∀ x ∈ l, x.length ≤ n) → (foldG k v ls).out.length ≤ n
  | [], _, _, _, h, _ => h
  | l :: ls, k, v, n, h, hl => by
    rw [foldG]
    refine foldG_out ls (k + 1) _ n ?_ (fun z hz => hl z (List.mem_cons_of_mem _ hz))
    unfold stepG
    split
    · unfold headG
      dsimp only
      exact unhexG_len n _ (getD_len (hl l List.mem_cons_self) 4)
    · split <;> exact h
theorem foldG_loglen : ∀ (ls : List (List (List UInt8))) (k : Nat) (v : Vp), (foldG k v ls).log.length ≤ v.log.length + ls.length
  | [], _, _ => Nat.le_refl _
  | l :: ls, k, v => by
    rw [foldG, List.length_cons]
    have := foldG_loglen ls (k + 1) (stepG k v l)
    have h2 : (stepG k v l).log.length ≤ v.log.length + 1 := by
      unfold stepG
      split
      · exact Nat.zero_le _
      · split
        · simp
        · omega
    omega
theorem pvG_val (a b : UInt8) : IntKind.u8.wrap (IntKind.u8.wrap (16 * ((digitB a).toNat : Int)) + ((digitB b).toNat : Int)) = ((pvG a b).toNat : Int) := by
  rw [IntKind.wrap_u8, IntKind.wrap_u8]
  unfold pvG
  rw [UInt8.toNat_ofNat']
  have := (digitB a).toNat_lt
  have := (digitB b).toNat_lt
  omega
theorem gx_start (w : World) (hE : Env w) {W0 W1 : World} (hW0 : (w.alloc (.cells #[Value.int .u32 0, Value.int .u32 0, Value.int .u32 0, Value.int .u32 0, Value.int .u32 0, Value.int .u32 0, Value.int .u32 0, Value.int .u32 0, Value.int .u32 0, Value.int .u32 0, Value.int .u32 0, Value.int .u32 0, Value.int .u32 0, Value.int .u32 0, Value.int .u32 0, Value.int .u32 0, Value.int .u32 0, Value.int .u32 0, Value.int .u32 0, Value.int .u32 0, Value.int .u32 0, Value.int .u32 0, Value.int .u32 0, Value.int .u32 0, Value.int .u32 0, Value.int .u32 0, Value.int .u32 0, Value.int .u32 0, Value.int .u32 0, .slice none 0 0, .bool false, .int .i64 0, .slice none 0 0] 30)).alloc (.cells #[Value.int .u32 0, Value.int .u32 0, Value.int .u32 0, Value.int .u32 0, Value.int .u32 0, Value.int .u32 0, Value.int .u32 0, Value.int .u32 0, Value.int .u32 0, Value.int .u32 0, Value.int .u32 0, Value.int .u32 0, Value.int .u32 0, Value.int .u32 0, Value.int .u32 0, Value.int .u32 0, Value.int .u32 0, Value.int .u32 0, Value.int .u32 0, Value.int .u32 0, Value.int .u32 0, Value.int .u32 0, Value.int .u32 0, Value.int .u32 0, Value.int .u32 0, Value.int .u32 0, Value.int .u32 0, Value.int .u32 0, Value.int .u32 0, .slice none 0 0, .bool false, .int .i64 0, .slice none 0 0] 30) = W0) (hb : Below W0.heap.size W0 W1) : W0.heap.size = w.heap.size + 2 ∧ GX w W1 w.heap.size zeroV none 0 none 0 W1 := by
  have z0 : W0.heap.size = w.heap.size + 2 := by rw [← hW0]; simp
  have n9 := hE.size
  have a1 := VBox.newZ w
  have a2 := VBox.newZ (w.alloc (.cells #[Value.int .u32 0, Value.int .u32 0, Value.int .u32 0, Value.int .u32 0, Value.int .u32 0, Value.int .u32 0, Value.int .u32 0, Value.int .u32 0, Value.int .u32 0, Value.int .u32 0, Value.int .u32 0, Value.int .u32 0, Value.int .u32 0, Value.int .u32 0, Value.int .u32 0, Value.int .u32 0, Value.int .u32 0, Value.int .u32 0, Value.int .u32 0, Value.int .u32 0, Value.int .u32 0, Value.int .u32 0, Value.int .u32 0, Value.int .u32 0, Value.int .u32 0, Value.int .u32 0, Value.int .u32 0, Value.int .u32 0, Value.int .u32 0, .slice none 0 0, .bool false, .int .i64 0, .slice none 0 0] 30))
  have zz : (w.alloc (.cells #[Value.int .u32 0, Value.int .u32 0, Value.int .u32 0, Value.int .u32 0, Value.int .u32 0, Value.int .u32 0, Value.int .u32 0, Value.int .u32 0, Value.int .u32 0, Value.int .u32 0, Value.int .u32 0, Value.int .u32 0, Value.int .u32 0, Value.int .u32 0, Value.int .u32 0, Value.int .u32 0, Value.int .u32 0, Value.int .u32 0, Value.int .u32 0, Value.int .u32 0, Value.int .u32 0, Value.int .u32 0, Value.int .u32 0, Value.int .u32 0, Value.int .u32 0, Value.int .u32 0, Value.int .u32 0, Value.int .u32 0, Value.int .u32 0, .slice none 0 0, .bool false, .int .i64 0, .slice none 0 0] 30)).heap.size = w.heap.size + 1 := by simp
  rw [hW0, zz] at a2
  have a1' := a1.later ((Below.refl _ _).alloc (Nat.le_refl _) (.cells #[Value.int .u32 0, Value.int .u32 0, Value.int .u32 0, Value.int .u32 0, Value.int .u32 0, Value.int .u32 0, Value.int .u32 0, Value.int .u32 0, Value.int .u32 0, Value.int .u32 0, Value.int .u32 0, Value.int .u32 0, Value.int .u32 0, Value.int .u32 0, Value.int .u32 0, Value.int .u32 0, Value.int .u32 0, Value.int .u32 0, Value.int .u32 0, Value.int .u32 0, Value.int .u32 0, Value.int .u32 0, Value.int .u32 0, Value.int .u32 0, Value.int .u32 0, Value.int .u32 0, Value.int .u32 0, Value.int .u32 0, Value.int .u32 0, .slice none 0 0, .bool false, .int .i64 0, .slice none 0 0] 30))
  rw [hW0] at a1'
  have b0 : Below w.heap.size w W0 := by rw [← hW0]; exact ((Below.refl w.heap.size w).alloc (Nat.le_refl _) _).alloc (by simp) _
  have bw : Below w.heap.size w W1 := b0.trans (hb.mono (by omega))
  have hs := hb.size
  exact ⟨z0, ⟨⟨bw, Nat.le_refl _, by omega, hE.later bw, n9, fun k _ _ => rfl, a1'.later hb, by rw [← fl_zero]; exact a2.later hb⟩, zeroV_wf, World.ownsRow_nil _ _ _ _, World.ownsRow_nil _ _ _ _, fun g h => by cases h⟩⟩
theorem GX.vc_end {w W1 W : World} {s : Nat} {v : Vp} {p q : Option Addr} {c d : Nat} (h : GX w W1 s v p c q d W) (cs : List Value) : VC (W.setCells s 0 cs) (vcs v p c q d) v := by
  have hge := h.core.ge
  exact ⟨h.wf, p, c, q, d, rfl, bytes_of_row (h.ro.kept (grown_cells s cs 0 W) (.inr (ownNe h.ro (by omega)).symm)) rfl, evs_of_row (h.rl.kept (grown_cells s cs 0 W) (.inr (ownNe h.rl (by omega)).symm)) rfl⟩
theorem results11 (tmps : Array Value) (W : World) (x : Nat) (n : Int) (cs : List Value) (h2 : tmps.getD 2 undef = .pointer (some ⟨x, 0, none⟩)) (h3 : tmps.getD 3 undef = .int .i64 n) (hr : W.rangeAt x 0 cs) (hi : (Tryd.prog.info? 30).map (·.size) = some cs.length) :
    (results Tryd.f11 tmps).run Tryd.prog W = .ok (.tuple #[.agg cs.toArray, .int .i64 n]) W := by
  have h2' : tmps[2]?.getD undef = .pointer (some ⟨x, 0, none⟩) := by simpa using h2
  have h3' : tmps[3]?.getD undef = .int .i64 n := by simpa using h3
  have hres : Tryd.f11.results = #[.cell 2 30, .tmp 3] := rfl
  simp [results, hres, h2', h3', asAddr, run_loadVar_mid W x 0 30 cs _ hr Tryd.underlying30 rfl hi]
/-- The state while the head line is read. -/
def headV (dn pc : Int) (b : Bool) (out : List UInt8) : Vp := { regs := List.replicate 16 0, pc := pc, csr := List.replicate 12 0, out := out, halted := b, done := dn, log := [] }
theorem headV_wf (dn pc : Nat) (b : Bool) (out : List UInt8) (h1 : (dn : Int) ≤ 9223372036854775807) (h2 : (pc : Int) ≤ 4294967295) : (headV dn pc b out).wf :=
  ⟨rfl, rfl, by unfold w32 headV; dsimp only; omega, by unfold headV; dsimp only; omega, fun e he => (by cases he), fun z hz => by unfold headV at hz; rw [List.eq_of_mem_replicate hz]; unfold w32; omega, fun z hz => by unfold headV at hz; rw [List.eq_of_mem_replicate hz]; unfold w32; omega⟩
theorem mul_w8 (x : UInt8) : ∃ y : Nat, IntKind.u8.wrap (16 * (x.toNat : Int)) = (y : Int) ∧ ∀ z : UInt8, IntKind.u8.wrap ((y : Int) + (z.toNat : Int)) = (((16 * x.toNat + z.toNat) % 256 : Nat) : Int) := by
  have hx := x.toNat_lt
  refine ⟨16 * x.toNat % 256, by rw [IntKind.wrap_u8]; omega, fun z => ?_⟩
  have hz := z.toNat_lt
  rw [IntKind.wrap_u8]
  omega
theorem pvG_nat (a b : UInt8) : (((16 * (digitB a).toNat + (digitB b).toNat) % 256 : Nat) : Int) = ((pvG a b).toNat : Int) := by
  unfold pvG
  rw [UInt8.toNat_ofNat']
  omega
theorem info5' : (Tryd.prog.info? 5).map (fun i => (i.zero, i.size, i.bytes)) = some (some (.int .u8 0), 1, 1) := info5
/-- The kind of an event behind j - 1 comparisons. -/
def kindJ (l : List UInt8) : Nat → Int
  | 0 => 0
  | 1 => 0
  | j + 2 => if l = wordsL.getD (j + 1) [] then ((j + 1 : Nat) : Int) else kindJ l (j + 1)
theorem kindJ_yes {l : List UInt8} {j : Nat} (h1 : 1 ≤ j) (h : l = wordsL.getD j []) : kindJ l (j + 1) = (j : Int) := by
  match j, h1 with
  | j + 1, _ => rw [kindJ, if_pos h]
theorem kindJ_no {l : List UInt8} {j : Nat} (h1 : 1 ≤ j) (h : l ≠ wordsL.getD j []) : kindJ l (j + 1) = kindJ l j := by
  match j, h1 with
  | j + 1, _ => rw [kindJ, if_neg h]
theorem kindJ_all (l : List UInt8) : kindJ l 4 = kindG l := by
  unfold kindG
  by_cases h1 : l = [116, 105, 109, 101, 114]
  · subst h1; rfl
  · by_cases h2 : l = [116, 105, 109, 101]
    · subst h2; rfl
    · by_cases h3 : l = [116, 105, 109, 101, 104]
      · subst h3; rfl
      · rw [if_neg h1, if_neg h2, if_neg h3, kindJ_no (by decide) (show l ≠ wordsL.getD 3 [] from h3), kindJ_no (by decide) (show l ≠ wordsL.getD 2 [] from h2), kindJ_no (by decide) (show l ≠ wordsL.getD 1 [] from h1)]
        rfl
theorem all_ecl (e : Ev) : (ecl e).toArray.all (·.oneCell') = true := ecl_all e
theorem info49b : (Tryd.prog.info? 49).map (fun i => (i.zero, i.size, i.bytes)) = some (some (.agg #[.int .i64 0, .int .i64 0, .int .u64 0]), 3, 24) := info49
/-- What a region of Get that reads two fields keeps. -/
abbrev bS (w W1 : World) (s : Nat) (v : Vp) (p : Option Addr) (c : Nat) (q : Option Addr) (d hh : Nat) (S1 S2 : ByteArray) (w' : World) : Prop :=
  w'.cell? ⟨hh, 1, none⟩ = some (.string S1) ∧ w'.cell? ⟨hh, 2, none⟩ = some (.string S2) ∧ Hid (GX w W1 s v p c q d w')
theorem bS.later {w W1 W W' : World} {s hh : Nat} {v : Vp} {p q : Option Addr} {c d : Nat} {S1 S2 : ByteArray} (h : bS w W1 s v p c q d hh S1 S2 W) (hb : Below W.heap.size W W') : bS w W1 s v p c q d hh S1 S2 W' :=
  ⟨cell_keep hb h.1, cell_keep hb h.2.1, h.2.2.later hb⟩
theorem stepG_none {k : Nat} {v : Vp} {L : List (List UInt8)} (h1 : ¬ (k = 0 ∧ L.length = 5)) (h2 : ¬ (0 < k ∧ L.length = 3)) : stepG k v L = v := by
  unfold stepG
  rw [if_neg h1, if_neg h2]
set_option maxRecDepth 100000 in
set_option maxHeartbeats 8000000 in
theorem get_go (l : List UInt8) (hl : l.length ≤ 2000) (w : World) (hE : Env w) :
    Calls Tryd.prog 11 #[.string ⟨l.toArray⟩] w fun e w' => Below w.heap.size w w' ∧ ParE (getS l) (okG l) e w' := by
  have hb : okG l = (fOk (getS l) && decide (fmtS (getS l) = ⟨l.toArray⟩)) := rfl
  obtain ⟨B, hB⟩ : ∃ B, okG l = B := ⟨_, rfl⟩
  rw [hB] at hb ⊢
  have hV : foldG 0 zeroV (wordsG l) = getS l := rfl
  have hlsl : (wordsG l).length ≤ 2000 := Nat.le_trans (wordsA_len l [] []) hl
  have hlm : Hid (∀ L ∈ wordsG l, ∀ x ∈ L, x.length ≤ 1000000) := Lib.hid (wordsA_mem l [] [] 1000000 (by simp; omega) (fun x hx => by cases hx))
  have hVo : Hid ((getS l).out.length ≤ 1000000 ∧ (getS l).log.length ≤ 1000000) := Lib.hid ⟨foldG_out _ _ _ _ (Nat.zero_le _) hlm.out, by have := foldG_loglen (wordsG l) 0 zeroV; have h0 : zeroV.log.length = 0 := rfl; unfold getS; omega⟩
  obtain ⟨V, hVe⟩ : ∃ V, getS l = V := ⟨_, rfl⟩
  rw [hVe] at hb hV hVo ⊢
  have WD := Lib.hid (fun W => words_any l W (by omega))
  obtain ⟨ls, hls⟩ : ∃ ls, wordsG l = ls := ⟨_, rfl⟩
  rw [hls] at hV hlsl hlm WD
  have HV := Lib.hid hV
  obtain ⟨S, hS⟩ : ∃ S : ByteArray, ⟨l.toArray⟩ = S := ⟨_, rfl⟩
  rw [hS] at hb WD ⊢
  have HB := Lib.hid hb
  have HE := Lib.hid hE
  clear hb hV hVe hls hS hB hE hl
  go_enter Tryd.func11, Tryd.ntmps11
  go_wp2_with fail
  obtain ⟨W0, hW0⟩ : ∃ W0, (w.alloc (.cells #[Value.int .u32 0, Value.int .u32 0, Value.int .u32 0, Value.int .u32 0, Value.int .u32 0, Value.int .u32 0, Value.int .u32 0, Value.int .u32 0, Value.int .u32 0, Value.int .u32 0, Value.int .u32 0, Value.int .u32 0, Value.int .u32 0, Value.int .u32 0, Value.int .u32 0, Value.int .u32 0, Value.int .u32 0, Value.int .u32 0, Value.int .u32 0, Value.int .u32 0, Value.int .u32 0, Value.int .u32 0, Value.int .u32 0, Value.int .u32 0, Value.int .u32 0, Value.int .u32 0, Value.int .u32 0, Value.int .u32 0, Value.int .u32 0, .slice none 0 0, .bool false, .int .i64 0, .slice none 0 0] 30)).alloc (.cells #[Value.int .u32 0, Value.int .u32 0, Value.int .u32 0, Value.int .u32 0, Value.int .u32 0, Value.int .u32 0, Value.int .u32 0, Value.int .u32 0, Value.int .u32 0, Value.int .u32 0, Value.int .u32 0, Value.int .u32 0, Value.int .u32 0, Value.int .u32 0, Value.int .u32 0, Value.int .u32 0, Value.int .u32 0, Value.int .u32 0, Value.int .u32 0, Value.int .u32 0, Value.int .u32 0, Value.int .u32 0, Value.int .u32 0, Value.int .u32 0, Value.int .u32 0, Value.int .u32 0, Value.int .u32 0, Value.int .u32 0, Value.int .u32 0, .slice none 0 0, .bool false, .int .i64 0, .slice none 0 0] 30) = W0 := ⟨_, rfl⟩
  simp only [hW0]
  refine (WD.out W0).mono ?_
  rintro e W1 ⟨⟨vw, rfl, hL⟩, hbw⟩
  obtain ⟨z0, hG0⟩ := gx_start w HE.out hW0 hbw
  rw [z0] at hL
  obtain ⟨s, hs0⟩ : ∃ s, w.heap.size = s := ⟨_, rfl⟩
  have HS0 := Lib.hid hs0
  rw [hs0] at hL hG0
  have G0 := Lib.hid hG0
  simp only [hs0]
  obtain ⟨pw, cw, rfl, hLn⟩ := hL
  have HL := Lib.hid hLn
  clear hW0 hbw hG0 hLn hs0 WD z0
  go_wp2_with fail
  go_loopw [6] (fun vi wr => ∃ (k : Nat) (v : Vp) (p : Option Addr) (c : Nat) (q : Option Addr) (d : Nat), k ≤ ls.length ∧ vi = .int .i64 (k : Int) ∧ v.log.length ≤ k ∧ Hid (GX w W1 s v p c q d wr) ∧ Hid (foldG k v (ls.drop k) = V) ∧ Hid (k = 0 → v = zeroV)) (fun vi _ => ls.length - (intOf vi).toNat)
  case atStart => exact ⟨0, zeroV, none, 0, none, 0, by omega, rfl, Nat.le_refl _, G0, Lib.hid (by rw [List.drop_zero]; exact HV.out), Lib.hid (fun _ => rfl)⟩
  case round =>
    obtain ⟨k, v, p, c, q, d, hk, rfl, hvl, hG, hF, hZ⟩ := hrel
    by_cases hkn : k < ls.length
    · obtain ⟨L, hL⟩ : ∃ L, ls[k]? = some L := ⟨ls[k], List.getElem?_eq_getElem hkn⟩
      obtain ⟨g, u, hpw, hgs, hcu, p', c', hu, hcs⟩ := HL.out k L hL
      have hLm := Lib.hid (hlm.out L (List.mem_of_getElem? hL))
      have HC := Lib.hid hcs
      have hfold : Hid (foldG (k + 1) (stepG k v L) (ls.drop (k + 1)) = V) := Lib.hid (by
        have := hF.out
        rw [List.drop_eq_getElem_cons hkn, (List.getElem?_eq_some_iff.1 hL).2, foldG] at this
        exact this)
      subst hpw
      subst hu
      have hcu' := hG.out.str hgs hcu
      have q1 : (k : Int) < (ls.length : Int) := by omega
      have q2 : (0 : Int) ≤ (k : Int) := by omega
      clear hcs hcu hF hL
      by_cases h0 : k = 0
      · by_cases h5 : L.length = 5
        · obtain ⟨l0, l1, l2, l3, l4, rfl⟩ : ∃ l0 l1 l2 l3 l4, L = [l0, l1, l2, l3, l4] := by
            match L, h5 with
            | [a, b, c, d, e], _ => exact ⟨a, b, c, d, e, rfl⟩
          have hv0 := hZ.out h0
          subst hv0
          subst h0
          obtain ⟨hh, hp', hhs, _⟩ := HC.out 1 l1 rfl
          subst hp'
          have cj : Hid (∀ (j : Nat) x, [l0, l1, l2, l3, l4][j]? = some x → W1.cell? ⟨hh, j, none⟩ = some (strV x)) := Lib.hid (fun j x hj => by
            obtain ⟨g2, e, _, h⟩ := HC.out j x hj
            cases e
            exact h)
          have hcu5 : wr.cell? ⟨g, 0, none⟩ = some (.slice (some ⟨hh, 0, none⟩) 5 c') := hcu'
          have m1 := hLm.out l1 (by simp)
          have m2 := hLm.out l2 (by simp)
          have m4 := hLm.out l4 (by simp)
          have N1 := Lib.hid (fun w => num_any l1 w m1)
          have N2 := Lib.hid (fun w => num_any l2 w m2)
          have DG := Lib.hid (fun c w => digit_any c w)
          have b1 := numW_lt l1 0 (by decide)
          have b2 := numW_lt l2 0 (by decide)
          obtain ⟨b, hb3⟩ : ∃ b, decide (l3 = [104, 97, 108, 116, 101, 100]) = b := ⟨_, rfl⟩
          obtain ⟨n1, hn1⟩ : ∃ n, numW l1 0 = n := ⟨_, rfl⟩
          obtain ⟨n2, hn2⟩ : ∃ n, numW l2 0 = n := ⟨_, rfl⟩
          obtain ⟨d1, hd1⟩ : ∃ d, n1 % 2199023255552 = d := ⟨_, rfl⟩
          obtain ⟨d2, hd2⟩ : ∃ d, n2 % 4294967296 = d := ⟨_, rfl⟩
          have hst : Hid (foldG (0 + 1) (headV d1 d2 b (unhexG l4)) (ls.drop (0 + 1)) = V) := Lib.hid (by
            have := hfold.out
            rw [show stepG 0 zeroV [l0, l1, l2, l3, l4] = headV d1 d2 b (unhexG l4) by
              unfold stepG
              rw [if_pos ⟨rfl, rfl⟩]
              unfold headG headV
              simp only [List.getD_cons_zero, List.getD_cons_succ]
              rw [hn1, hn2, hd1, hd2, hb3]] at this
            exact this)
          obtain ⟨S1, hS1⟩ : ∃ S : ByteArray, ⟨l1.toArray⟩ = S := ⟨_, rfl⟩
          obtain ⟨S2, hS2⟩ : ∃ S : ByteArray, ⟨l2.toArray⟩ = S := ⟨_, rfl⟩
          obtain ⟨S3, hS3⟩ : ∃ S : ByteArray, ⟨l3.toArray⟩ = S := ⟨_, rfl⟩
          obtain ⟨S4, hS4⟩ : ∃ S : ByteArray, ⟨l4.toArray⟩ = S := ⟨_, rfl⟩
          have hget := Lib.hid (fun k c h => ba_get l4 k c h)
          have hsz4 : S4.size = l4.length := by rw [← hS4]; exact List.size_toArray
          have c1 : Hid (W1.cell? ⟨hh, 1, none⟩ = some (.string S1)) := Lib.hid (by rw [← hS1]; exact cj.out 1 l1 rfl)
          have c2 : Hid (W1.cell? ⟨hh, 2, none⟩ = some (.string S2)) := Lib.hid (by rw [← hS2]; exact cj.out 2 l2 rfl)
          have c3 : Hid (W1.cell? ⟨hh, 3, none⟩ = some (.string S3)) := Lib.hid (by rw [← hS3]; exact cj.out 3 l3 rfl)
          have c4 : Hid (W1.cell? ⟨hh, 4, none⟩ = some (.string S4)) := Lib.hid (by rw [← hS4]; exact cj.out 4 l4 rfl)
          rw [hS1, hn1] at N1
          rw [hS2, hn2] at N2
          rw [hS4] at hget
          have hcmp : (S3.toList == [104, 97, 108, 116, 101, 100]) = b := by
            rw [← hb3, ← hS3]
            by_cases e : l3 = [104, 97, 108, 116, 101, 100]
            · rw [e, decide_eq_true rfl, ByteArray.toList_eq]; rfl
            · rw [decide_eq_false e, ByteArray.toList_eq]
              exact beq_eq_false_iff_ne.2 e
          rw [hn1] at b1
          rw [hn2] at b2
          have e1 : (n1 : Int) % 2199023255552 = (d1 : Int) := by omega
          have e2 : (n1 : Int).tmod 2199023255552 = (d1 : Int) := by rw [Int.tmod_eq_emod_of_nonneg (by omega)]; exact e1
          have e3 : (n2 : Int) % 4294967296 = (d2 : Int) := by omega
          have e4 : (n2 : Int).tmod 4294967296 = (d2 : Int) := by rw [Int.tmod_eq_emod_of_nonneg (by omega)]; exact e3
          have e5 : IntKind.i64.wrap (d1 : Int) = (d1 : Int) := by rw [IntKind.wrap_i64]; omega
          have e6 : IntKind.u32.wrap (d2 : Int) = (d2 : Int) := by rw [IntKind.wrap_u32]; omega
          have i1 : (d1 : Int) ≤ 9223372036854775807 := by omega
          have i2 : (d2 : Int) ≤ 4294967295 := by omega
          have k1 := hG.out.str hhs c1.out
          clear hd1 hd2 hb3 hn1 hn2 hS1 hS2 hS3 hS4 hfold HC cj b1 b2 m1 m2
          go_upto_region 8 with (fail)
          go_upto_region 9 with (first
            | (go_at_call 29; refine (N1.out _).mono ?_; rintro e w2 ⟨rfl, hb2⟩
               have G2 := Lib.hid (hG.out.later hb2)
               have x31 := G2.out.core.bx.cell 31 (.int .i64 0) (vcs_end zeroV_wf p c q d 2)
               have f31 := G2.out.core.bx.free 31 (by decide)
               clear hb2))
          have G3 : Hid (GX w W1 s (headV d1 0 false []) p c q d (w2.setCell ⟨s + 1, 31, none⟩ (.int .i64 (d1 : Int)))) := Lib.hid (G2.out.slot 31 (by decide) (.int .i64 (d1 : Int)) (headV d1 0 false []) (headV_wf d1 0 false [] i1 (by decide)) rfl rfl (vcs_set31 zeroV_wf _ p q c d))
          obtain ⟨w3, hw3⟩ : ∃ z, w2.setCell ⟨s + 1, 31, none⟩ (.int .i64 (d1 : Int)) = z := ⟨_, rfl⟩
          rw [hw3] at G3
          simp only [hw3]
          have k2 := G3.out.str hhs c2.out
          clear hw3 G2 x31 f31 e1 e2 e5 k1 hcu5 hcu'
          go_upto_region 10 with (first
            | (go_at_call 29; refine (N2.out _).mono ?_; rintro e w4 ⟨rfl, hb4⟩
               have G4 := Lib.hid (G3.out.later hb4)
               have x16 := G4.out.core.bx.cell 16 (.int .u32 0) (vcs_pc (headV_wf d1 0 false [] i1 (by decide)) p c q d)
               have f16 := G4.out.core.bx.free 16 (by decide)
               clear hb4))
          have G5 : Hid (GX w W1 s (headV d1 d2 false []) p c q d (w4.setCell ⟨s + 1, 16, none⟩ (.int .u32 (d2 : Int)))) := Lib.hid (G4.out.slot 16 (by decide) (.int .u32 (d2 : Int)) (headV d1 d2 false []) (headV_wf d1 d2 false [] i1 i2) rfl rfl (vcs_set16 (headV_wf d1 0 false [] i1 (by decide)) _ p q c d))
          obtain ⟨w5, hw5⟩ : ∃ z, w4.setCell ⟨s + 1, 16, none⟩ (.int .u32 (d2 : Int)) = z := ⟨_, rfl⟩
          rw [hw5] at G5
          simp only [hw5]
          have k3 := G5.out.str hhs c3.out
          have x30 := G5.out.core.bx.cell 30 (.bool false) (vcs_end (headV_wf d1 d2 false [] i1 i2) p c q d 1)
          have f30 := G5.out.core.bx.free 30 (by decide)
          clear hw5 G3 G4 x16 f16 e3 e4 e6 k2
          go_upto_region 11 with (fail)
          have G6 : Hid (GX w W1 s (headV d1 d2 b []) p c q d (w5.setCell ⟨s + 1, 30, none⟩ (.bool b))) := Lib.hid (G5.out.slot 30 (by decide) (.bool b) (headV d1 d2 b []) (headV_wf d1 d2 b [] i1 i2) rfl rfl (vcs_set30 (headV_wf d1 d2 false [] i1 i2) _ p q c d))
          obtain ⟨w6, hw6⟩ : ∃ z, w5.setCell ⟨s + 1, 30, none⟩ (.bool b) = z := ⟨_, rfl⟩
          rw [hw6] at G6
          simp only [hw6]
          clear hw6 G5 x30 f30 k3 hcmp
          obtain ⟨n4, hn4⟩ : ∃ n, l4.length = n := ⟨_, rfl⟩
          have HN4 := Lib.hid hn4
          rw [hn4] at hsz4 m4
          clear hn4
          obtain ⟨i5, hi5, hz5, hs5, hb5⟩ := info_parts info5
          go_wp2_with fail
          go_loopw [8] (fun vi wr => ∃ (i : Nat) (A : List UInt8) (pp qq : Option Addr) (cc dd : Nat), vi = .int .i64 ((2 * i : Nat) : Int) ∧ 2 * i ≤ n4 + 1 ∧ A.length = i ∧ Hid (GX w W1 s (headV d1 d2 b A) pp cc qq dd wr) ∧ Hid (A ++ unhexG (l4.drop (2 * i)) = unhexG l4)) (fun vi _ => n4 + 2 - (intOf vi).toNat)
          case atStart => exact ⟨0, [], p, q, c, d, rfl, by omega, rfl, G6, Lib.hid rfl⟩
          case round =>
            obtain ⟨i, A, pp, qq, cc, dd, rfl, hi, hAl, hGX, hA⟩ := hrel
            obtain ⟨idx, hidx⟩ : ∃ x, 2 * i = x := ⟨_, rfl⟩
            have HI := Lib.hid hidx
            simp only [hidx]
            rw [hidx] at hA hi
            clear hidx
            have k4 := hGX.out.str hhs c4.out
            have r3 : IntKind.i64.wrap ((idx : Int) + 1) = (idx : Int) + 1 := by rw [IntKind.wrap_i64]; omega
            by_cases hin : idx + 1 < n4
            · obtain ⟨a, ha⟩ : ∃ a, l4[idx]? = some a := ⟨l4[idx]'(by rw [HN4.out]; omega), List.getElem?_eq_getElem _⟩
              obtain ⟨z, hz⟩ : ∃ z, l4[idx + 1]? = some z := ⟨l4[idx + 1]'(by rw [HN4.out]; omega), List.getElem?_eq_getElem _⟩
              have hA2 : Hid ((A ++ [pvG a z]) ++ unhexG (l4.drop (idx + 2)) = unhexG l4) := Lib.hid (by rw [← hA.out, unhexG_drop ha hz]; simp)
              have hlt1 : idx < S4.size := by omega
              have hlt2 : idx + 1 < S4.size := by omega
              have g1 : S4[idx]'hlt1 = a := Option.some.inj ((getElem?_pos S4 idx hlt1).symm.trans (hget.out idx a ha))
              have g2 : S4[idx + 1]'hlt2 = z := Option.some.inj ((getElem?_pos S4 (idx + 1) hlt2).symm.trans (hget.out (idx + 1) z hz))
              have D1 := Lib.hid (fun w => DG.out a w)
              have D2 := Lib.hid (fun w => DG.out z w)
              obtain ⟨y, hy1, hy2⟩ := mul_w8 (digitB a)
              have hy3 := hy2 (digitB z)
              rw [pvG_nat] at hy3
              obtain ⟨x1, hx1⟩ : ∃ x, digitB a = x := ⟨_, rfl⟩
              obtain ⟨x2, hx2⟩ : ∃ x, digitB z = x := ⟨_, rfl⟩
              obtain ⟨x3, hx3⟩ : ∃ x, pvG a z = x := ⟨_, rfl⟩
              rw [hx1] at D1 hy1
              rw [hx2] at D2 hy3
              rw [hx3] at hA2 hy3
              have q1' : (idx : Int) + 1 < (n4 : Int) := by omega
              have q2' : (0 : Int) ≤ (idx : Int) := by omega
              have q3' : (idx : Int) < (n4 : Int) := by omega
              have q4' : (0 : Int) ≤ (idx : Int) + 1 := by omega
              have q5' : ((idx : Int) + 1).toNat = idx + 1 := by omega
              clear ha hz hA hy2 hx1 hx2 hx3
              have hi6 : i ≤ 1000000 := by have := HI.out; omega
              go_wp2_with fail
              obtain ⟨wd, hwd⟩ : ∃ x, wr.drew = x := ⟨_, rfl⟩
              have GD : Hid (GX w W1 s (headV d1 d2 b A) pp cc qq dd wd) := Lib.hid (by rw [← hwd]; exact hGX.out.later (Below.refl _ _).drew)
              have k4d := GD.out.str hhs c4.out
              have x29 : wd.cell? ⟨s + 1, 29, none⟩ = some (.slice pp i cc) := by
                have := GD.out.core.bx.cell 29 (.slice pp A.length cc) (vcs_end (headV_wf d1 d2 b A i1 i2) pp cc qq dd 0)
                rwa [hAl] at this
              have f29 := GD.out.core.bx.free 29 (by decide)
              have own := GD.out.ro
              have own : wd.ownsRow W1.heap.size 5 1 (.slice pp i cc) i (Lib.byteCells A) := by rw [← hAl]; exact own
              have ltS : s + 1 < wd.heap.size := GD.out.core.bx.lt
              have ltH : hh < wd.heap.size := World.block_lt_of_cell? wd _ k4d
              have hS : wd.cell? ⟨s + 1, 29, none⟩ = some (.slice pp i cc) ∧ wd.cell? ⟨hh, 4, none⟩ = some (.string S4) := ⟨x29, k4d⟩
              refine region_t (S := fun w' => w'.cell? ⟨s + 1, 29, none⟩ = some (.slice pp i cc) ∧ w'.cell? ⟨hh, 4, none⟩ = some (.string S4)) (z := 20) ?_
              rw [hwd]
              clear k4 k4d x29
              (refine wpT_take (i := 0) (v := (.pointer (some ⟨s + 1, 29, none⟩))) rfl (by decide) (by kernel_rfl) (by kernel_rfl) (by kernel_rfl) (by kernel_rfl) (fun _ _ _ h => h) (by rfl) (by intro w hSw; (try dsimp only at hSw); simp only [List.getElem_toArray, List.getElem_cons_zero, List.getElem_cons_succ]; go_simp) (by assumption) ?_; simp only [Act.put, List.getElem_toArray, List.getElem_cons_zero, List.getElem_cons_succ, List.setIfInBounds_toArray, List.set_cons_zero, List.set_cons_succ])
              (refine wpT_take (i := 1) (v := (.slice pp i cc)) rfl (by decide) (by kernel_rfl) (by kernel_rfl) (by kernel_rfl) (by kernel_rfl) (fun _ _ _ h => h) (by rfl) (by intro w hSw; (try dsimp only at hSw); simp only [List.getElem_toArray, List.getElem_cons_zero, List.getElem_cons_succ]; go_simp) (by assumption) ?_; simp only [Act.put, List.getElem_toArray, List.getElem_cons_zero, List.getElem_cons_succ, List.setIfInBounds_toArray, List.set_cons_zero, List.set_cons_succ])
              (refine wpT_take (i := 2) (v := (.slice (some ⟨hh, 0, none⟩) 5 c')) rfl (by decide) (by kernel_rfl) (by kernel_rfl) (by kernel_rfl) (by kernel_rfl) (fun _ _ _ h => h) (by rfl) (by intro w hSw; (try dsimp only at hSw); simp only [List.getElem_toArray, List.getElem_cons_zero, List.getElem_cons_succ]; go_simp) (by assumption) ?_; simp only [Act.put, List.getElem_toArray, List.getElem_cons_zero, List.getElem_cons_succ, List.setIfInBounds_toArray, List.set_cons_zero, List.set_cons_succ])
              (refine wpT_take (i := 3) (v := (.pointer (some ⟨hh, 4, none⟩))) rfl (by decide) (by kernel_rfl) (by kernel_rfl) (by kernel_rfl) (by kernel_rfl) (fun _ _ _ h => h) (by rfl) (by intro w hSw; (try dsimp only at hSw); simp only [List.getElem_toArray, List.getElem_cons_zero, List.getElem_cons_succ]; go_simp) (by assumption) ?_; simp only [Act.put, List.getElem_toArray, List.getElem_cons_zero, List.getElem_cons_succ, List.setIfInBounds_toArray, List.set_cons_zero, List.set_cons_succ])
              (refine wpT_take (i := 4) (v := (.string S4)) rfl (by decide) (by kernel_rfl) (by kernel_rfl) (by kernel_rfl) (by kernel_rfl) (fun _ _ _ h => h) (by rfl) (by intro w hSw; (try dsimp only at hSw); simp only [List.getElem_toArray, List.getElem_cons_zero, List.getElem_cons_succ]; go_simp) (by assumption) ?_; simp only [Act.put, List.getElem_toArray, List.getElem_cons_zero, List.getElem_cons_succ, List.setIfInBounds_toArray, List.set_cons_zero, List.set_cons_succ])
              (refine wpT_take (i := 5) (v := (.int .i64 (idx : Int))) rfl (by decide) (by kernel_rfl) (by kernel_rfl) (by kernel_rfl) (by kernel_rfl) (fun _ _ _ h => h) (by rfl) (by intro w hSw; (try dsimp only at hSw); simp only [List.getElem_toArray, List.getElem_cons_zero, List.getElem_cons_succ]; go_simp) (by assumption) ?_; simp only [Act.put, List.getElem_toArray, List.getElem_cons_zero, List.getElem_cons_succ, List.setIfInBounds_toArray, List.set_cons_zero, List.set_cons_succ])
              (refine wpT_take (i := 6) (v := (.int .u8 (a.toNat : Int))) rfl (by decide) (by kernel_rfl) (by kernel_rfl) (by kernel_rfl) (by kernel_rfl) (fun _ _ _ h => h) (by rfl) (by intro w hSw; (try dsimp only at hSw); simp only [List.getElem_toArray, List.getElem_cons_zero, List.getElem_cons_succ]; go_simp) (by assumption) ?_; simp only [Act.put, List.getElem_toArray, List.getElem_cons_zero, List.getElem_cons_succ, List.setIfInBounds_toArray, List.set_cons_zero, List.set_cons_succ])
              (refine wpT_take (i := 9) (v := (.slice (some ⟨hh, 0, none⟩) 5 c')) rfl (by decide) (by kernel_rfl) (by kernel_rfl) (by kernel_rfl) (by kernel_rfl) (fun _ _ _ h => h) (by rfl) (by intro w hSw; (try dsimp only at hSw); simp only [List.getElem_toArray, List.getElem_cons_zero, List.getElem_cons_succ]; go_simp) (by assumption) ?_; simp only [Act.put, List.getElem_toArray, List.getElem_cons_zero, List.getElem_cons_succ, List.setIfInBounds_toArray, List.set_cons_zero, List.set_cons_succ])
              (refine wpT_take (i := 10) (v := (.pointer (some ⟨hh, 4, none⟩))) rfl (by decide) (by kernel_rfl) (by kernel_rfl) (by kernel_rfl) (by kernel_rfl) (fun _ _ _ h => h) (by rfl) (by intro w hSw; (try dsimp only at hSw); simp only [List.getElem_toArray, List.getElem_cons_zero, List.getElem_cons_succ]; go_simp) (by assumption) ?_; simp only [Act.put, List.getElem_toArray, List.getElem_cons_zero, List.getElem_cons_succ, List.setIfInBounds_toArray, List.set_cons_zero, List.set_cons_succ])
              (refine wpT_take (i := 11) (v := (.string S4)) rfl (by decide) (by kernel_rfl) (by kernel_rfl) (by kernel_rfl) (by kernel_rfl) (fun _ _ _ h => h) (by rfl) (by intro w hSw; (try dsimp only at hSw); simp only [List.getElem_toArray, List.getElem_cons_zero, List.getElem_cons_succ]; go_simp) (by assumption) ?_; simp only [Act.put, List.getElem_toArray, List.getElem_cons_zero, List.getElem_cons_succ, List.setIfInBounds_toArray, List.set_cons_zero, List.set_cons_succ])
              (refine wpT_take (i := 12) (v := (.int .i64 (idx : Int))) rfl (by decide) (by kernel_rfl) (by kernel_rfl) (by kernel_rfl) (by kernel_rfl) (fun _ _ _ h => h) (by rfl) (by intro w hSw; (try dsimp only at hSw); simp only [List.getElem_toArray, List.getElem_cons_zero, List.getElem_cons_succ]; go_simp) (by assumption) ?_; simp only [Act.put, List.getElem_toArray, List.getElem_cons_zero, List.getElem_cons_succ, List.setIfInBounds_toArray, List.set_cons_zero, List.set_cons_succ])
              (refine wpT_take (i := 13) (v := (.int .i64 ((idx : Int) + 1))) rfl (by decide) (by kernel_rfl) (by kernel_rfl) (by kernel_rfl) (by kernel_rfl) (fun _ _ _ h => h) (by rfl) (by intro w hSw; (try dsimp only at hSw); simp only [List.getElem_toArray, List.getElem_cons_zero, List.getElem_cons_succ]; go_simp) (by assumption) ?_; simp only [Act.put, List.getElem_toArray, List.getElem_cons_zero, List.getElem_cons_succ, List.setIfInBounds_toArray, List.set_cons_zero, List.set_cons_succ])
              (refine wpT_take (i := 14) (v := (.int .u8 (z.toNat : Int))) rfl (by decide) (by kernel_rfl) (by kernel_rfl) (by kernel_rfl) (by kernel_rfl) (fun _ _ _ h => h) (by rfl) (by intro w hSw; (try dsimp only at hSw); simp only [List.getElem_toArray, List.getElem_cons_zero, List.getElem_cons_succ]; go_simp) (by assumption) ?_; simp only [Act.put, List.getElem_toArray, List.getElem_cons_zero, List.getElem_cons_succ, List.setIfInBounds_toArray, List.set_cons_zero, List.set_cons_succ])
              refine wpT_step (i := 7) (by kernel_rfl) rfl rfl (fun K hK => ?_)
              simp only [List.getElem_toArray, List.getElem_cons_zero, List.getElem_cons_succ]
              go_simp
              refine (D1.out _).mono ?_
              rintro e w' ⟨rfl, hw'⟩
              rw [hw']
              clear hw' w'
              refine hK _ _ (fun _ => hS) ?_
              clear hK K
              (refine wpT_take (i := 8) (v := (.int .u8 (y : Int))) rfl (by decide) (by kernel_rfl) (by kernel_rfl) (by kernel_rfl) (by kernel_rfl) (fun _ _ _ h => h) (by rfl) (by intro w hSw; (try dsimp only at hSw); simp only [List.getElem_toArray, List.getElem_cons_zero, List.getElem_cons_succ]; go_simp) (by assumption) ?_; simp only [Act.put, List.getElem_toArray, List.getElem_cons_zero, List.getElem_cons_succ, List.setIfInBounds_toArray, List.set_cons_zero, List.set_cons_succ])
              refine wpT_step (i := 15) (by kernel_rfl) rfl rfl (fun K hK => ?_)
              simp only [List.getElem_toArray, List.getElem_cons_zero, List.getElem_cons_succ]
              go_simp
              refine (D2.out _).mono ?_
              rintro e w' ⟨rfl, hw'⟩
              rw [hw']
              clear hw' w'
              refine hK _ _ (fun _ => hS) ?_
              clear hK K
              (refine wpT_take (i := 16) (v := (.int .u8 (x3.toNat : Int))) rfl (by decide) (by kernel_rfl) (by kernel_rfl) (by kernel_rfl) (by kernel_rfl) (fun _ _ _ h => h) (by rfl) (by intro w hSw; (try dsimp only at hSw); simp only [List.getElem_toArray, List.getElem_cons_zero, List.getElem_cons_succ]; go_simp) (by assumption) ?_; simp only [Act.put, List.getElem_toArray, List.getElem_cons_zero, List.getElem_cons_succ, List.setIfInBounds_toArray, List.set_cons_zero, List.set_cons_succ])
              refine wpT_step (i := 17) (by kernel_rfl) rfl rfl (fun K hK => ?_)
              simp only [List.getElem_toArray, List.getElem_cons_zero, List.getElem_cons_succ]
              go_simp
              obtain ⟨g5, hg5⟩ : ∃ g, wd.heap.size = g := ⟨_, rfl⟩
              obtain ⟨W5, hW5⟩ : ∃ W5, wd.alloc (.cells #[Value.int .u8 (x3.toNat : Int)] 5) = W5 := ⟨_, rfl⟩
              have b5 : Below wd.heap.size wd W5 := by rw [← hW5]; exact (Below.refl wd.heap.size wd).alloc (Nat.le_refl _) _
              have sz5 : W5.heap.size = g5 + 1 := by rw [← hW5, ← hg5]; simp
              have blk5 : W5.heap[g5]? = some (.cells #[Value.int .u8 (x3.toNat : Int)] 5) := by rw [← hW5, ← hg5]; exact World.alloc_heap_new wd _
              have hS5 : W5.cell? ⟨s + 1, 29, none⟩ = some (.slice pp i cc) ∧ W5.cell? ⟨hh, 4, none⟩ = some (.string S4) := ⟨cell_keep b5 hS.1, cell_keep b5 hS.2⟩
              have fz5 : W5.frozen? ⟨s + 1, 29, none⟩ = false := (b5.frozen (p := ⟨s + 1, 29, none⟩) ltS).trans f29
              have own5 : W5.ownsRow W1.heap.size 5 1 (.slice pp i cc) i (Lib.byteCells A) := own.kept (grown_of_below b5) (by cases (Value.slice pp i cc).ownBlock <;> simp)
              have bs5 : W1.heap.size ≤ W5.heap.size := Nat.le_trans GD.out.core.le b5.size
              have ge5 := GD.out.core.ge
              have ltS5 : s + 1 < W5.heap.size := Nat.lt_of_lt_of_le ltS b5.size
              have ltH5 : hh < W5.heap.size := Nat.lt_of_lt_of_le ltH b5.size
              have hhW1 : hh < W1.heap.size := World.block_lt_of_cell? W1 _ c4.out
              rw [hg5, hW5]
              refine hK _ _ (fun _ => hS5) ?_
              clear hK K hW5
              refine wpT_step (i := 18) (by kernel_rfl) rfl rfl (fun K hK => ?_)
              simp only [List.getElem_toArray, List.getElem_cons_zero, List.getElem_cons_succ]
              refine wp_append_lies W5 (.tmp 62) (.tmp 78) 27 rfl W1.heap.size 5 i5 (.int .u8 0) 1 1 Tryd.underlying27 hi5 hz5 hs5 hb5 (by rfl) (by decide) (.slice pp i cc) i (Lib.byteCells A) (by rfl) own5 ⟨g5, 0, none⟩ 1 1 [.int .u8 (x3.toNat : Int)] (by rfl) (by rfl) (World.news_of_block blk5) (fun u hu => by simp at hu; subst hu; rfl) (by decide) (by unfold maxLen; omega) (by omega) bs5 (g5 + 1) sz5 ?_
              intro gg cap W6 own6 grow6 at6 lt6
              have neS : some (s + 1) ≠ (Value.slice pp i cc).ownBlock := ownNe own5 (by show s + 1 < _; omega)
              have neH : some hh ≠ (Value.slice pp i cc).ownBlock := ownNe own5 hhW1
              have hS6 : W6.cell? ⟨s + 1, 29, none⟩ = some (.slice pp i cc) ∧ W6.cell? ⟨hh, 4, none⟩ = some (.string S4) := ⟨(grow6.cell_far ⟨s + 1, 29, none⟩ ltS5 neS).trans hS5.1, (grow6.cell_far ⟨hh, 4, none⟩ ltH5 neH).trans hS5.2⟩
              have fz6 : W6.frozen? ⟨s + 1, 29, none⟩ = false := (grow6.frozen_far ⟨s + 1, 29, none⟩ ltS5 neS).trans fz5
              have fc6 := hS6.1
              refine hK _ _ (fun _ => hS6) ?_
              clear hK K
              simp only [Act.put, List.setIfInBounds_toArray, List.set_cons_zero, List.set_cons_succ]
              (refine wpT_take (i := 19) (v := (.pointer (some ⟨s + 1, 29, none⟩))) rfl (by decide) (by kernel_rfl) (by kernel_rfl) (by kernel_rfl) (by kernel_rfl) (fun _ _ _ h => h) (by rfl) (by intro w hSw; (try dsimp only at hSw); simp only [List.getElem_toArray, List.getElem_cons_zero, List.getElem_cons_succ]; go_simp) (by assumption) ?_; simp only [Act.put, List.getElem_toArray, List.getElem_cons_zero, List.getElem_cons_succ, List.setIfInBounds_toArray, List.set_cons_zero, List.set_cons_succ])
              refine wpT_step (i := 20) (by kernel_rfl) rfl rfl (fun K hK => ?_)
              simp only [List.getElem_toArray, List.getElem_cons_zero, List.getElem_cons_succ]
              go_simp
              have P6 : Hid (GX w W1 s (headV d1 d2 b (A ++ [x3])) (some ⟨gg, 0, none⟩) cap qq dd (W6.setCell ⟨s + 1, 29, none⟩ (.slice (some ⟨gg, 0, none⟩) (i + 1) cap))) := Lib.hid (by
                subst hAl
                exact GD.out.outA b5 x3 own6 grow6 (by rcases at6 with e | e; exact .inl e; exact .inr (e.trans sz5.symm)))
              obtain ⟨W7, hW7⟩ : ∃ W7, W6.setCell ⟨s + 1, 29, none⟩ (.slice (some ⟨gg, 0, none⟩) (i + 1) cap) = W7 := ⟨_, rfl⟩
              rw [hW7] at P6
              rw [hW7]
              refine hK _ _ (fun h => absurd rfl h) ?_
              clear hK K
              have HAL := Lib.hid hAl
              have hi2 : Hid ((idx : Int) + 2 = ((2 * (i + 1) : Nat) : Int) ∧ idx + 2 = 2 * (i + 1)) := Lib.hid (by have := HI.out; omega)
              clear hW7 hS6 fz6 fc6 own6 grow6 at6 lt6 hS5 fz5 own5 own hS f29 neS neH blk5 b5 sz5 GD hwd hy1 hy3 g1 g2 hAl r3 q5'
              refine wpT_done (by kernel_rfl) ?_
              go_wp2
              go_roundw
              case rel => exact ⟨i + 1, A ++ [x3], some ⟨gg, 0, none⟩, qq, cap, dd, by rw [← hi2.out.1], by have := hi2.out.2; omega, by rw [List.length_append, HAL.out]; rfl, P6, by rw [← hi2.out.2]; exact hA2⟩
              case measure => simp [intOf]; omega
            · have hA' : Hid (A = unhexG l4) := Lib.hid (by have := hA.out; rw [unhexG_end (by rw [HN4.out]; omega), List.append_nil] at this; exact this)
              have q1' : ¬ (idx : Int) + 1 < (n4 : Int) := by omega
              have HGX : Hid (GX w W1 s (headV d1 d2 b (unhexG l4)) pp cc qq dd wr) := Lib.hid (by rw [← hA'.out]; exact hGX.out)
              clear hA hAl hGX
              go_wp2
              go_roundw
              case rel => exact ⟨0 + 1, headV d1 d2 b (unhexG l4), pp, cc, qq, dd, by omega, by go_num, Nat.zero_le _, HGX, hst, Lib.hid (fun h => by omega)⟩
              case measure => simp [intOf]; omega
        · have e5 : ((L.length : Int) == 5) = false := by rw [beq_eq_false_iff_ne]; omega
          have HF2 : Hid (foldG (k + 1) v (ls.drop (k + 1)) = V) := Lib.hid (by have := hfold.out; rwa [stepG_none (by omega) (by omega)] at this)
          clear hfold
          subst h0
          go_wp2
          go_roundw
          case rel => exact ⟨0 + 1, v, p, c, q, d, by omega, by go_num, by omega, hG, HF2, Lib.hid (fun h => by omega)⟩
          case measure => simp [intOf]; omega
      · have e0 : ((k : Int) == 0) = false := by rw [beq_eq_false_iff_ne]; omega
        have q3 : (0 : Int) < (k : Int) := by omega
        by_cases h3 : L.length = 3
        · obtain ⟨l0, l1, l2, rfl⟩ : ∃ l0 l1 l2, L = [l0, l1, l2] := by
            match L, h3 with
            | [a, b, c], _ => exact ⟨a, b, c, rfl⟩
          obtain ⟨hh, hp', hhs, _⟩ := HC.out 0 l0 rfl
          subst hp'
          have cj : Hid (∀ (j : Nat) x, [l0, l1, l2][j]? = some x → W1.cell? ⟨hh, j, none⟩ = some (strV x)) := Lib.hid (fun j x hj => by
            obtain ⟨g2, e, _, h⟩ := HC.out j x hj
            cases e
            exact h)
          have hcu3 : wr.cell? ⟨g, k, none⟩ = some (.slice (some ⟨hh, 0, none⟩) 3 c') := hcu'
          have m1 := hLm.out l1 (by simp)
          have m2 := hLm.out l2 (by simp)
          have N1 := Lib.hid (fun w => num_any l1 w m1)
          have N2 := Lib.hid (fun w => num_any l2 w m2)
          have b1 := numW_lt l1 0 (by decide)
          have b2 := numW_lt l2 0 (by decide)
          obtain ⟨n1, hn1⟩ : ∃ n, numW l1 0 = n := ⟨_, rfl⟩
          obtain ⟨n2, hn2⟩ : ∃ n, numW l2 0 = n := ⟨_, rfl⟩
          obtain ⟨d1, hd1⟩ : ∃ d, n1 % 2199023255552 = d := ⟨_, rfl⟩
          have hst : Hid (foldG (k + 1) { v with log := v.log ++ [⟨kindG l0, (d1 : Int), (n2 : Int)⟩] } (ls.drop (k + 1)) = V) := Lib.hid (by
            have := hfold.out
            rw [show stepG k v [l0, l1, l2] = { v with log := v.log ++ [⟨kindG l0, (d1 : Int), (n2 : Int)⟩] } by
              unfold stepG
              rw [if_neg (by omega), if_pos ⟨by omega, rfl⟩]
              unfold evG
              simp only [List.getD_cons_zero, List.getD_cons_succ]
              rw [hn1, hn2, hd1]] at this
            exact this)
          obtain ⟨S0, hS0⟩ : ∃ S : ByteArray, ⟨l0.toArray⟩ = S := ⟨_, rfl⟩
          obtain ⟨S1, hS1⟩ : ∃ S : ByteArray, ⟨l1.toArray⟩ = S := ⟨_, rfl⟩
          obtain ⟨S2, hS2⟩ : ∃ S : ByteArray, ⟨l2.toArray⟩ = S := ⟨_, rfl⟩
          have c0 : Hid (W1.cell? ⟨hh, 0, none⟩ = some (.string S0)) := Lib.hid (by rw [← hS0]; exact cj.out 0 l0 rfl)
          have c1 : Hid (W1.cell? ⟨hh, 1, none⟩ = some (.string S1)) := Lib.hid (by rw [← hS1]; exact cj.out 1 l1 rfl)
          have c2 : Hid (W1.cell? ⟨hh, 2, none⟩ = some (.string S2)) := Lib.hid (by rw [← hS2]; exact cj.out 2 l2 rfl)
          rw [hS1, hn1] at N1
          rw [hS2, hn2] at N2
          rw [hn1] at b1
          rw [hn2] at b2
          have HW0 := Lib.hid hS0
          have e1 : (n1 : Int) % 2199023255552 = (d1 : Int) := by omega
          have e2 : (n1 : Int).tmod 2199023255552 = (d1 : Int) := by rw [Int.tmod_eq_emod_of_nonneg (by omega)]; exact e1
          have e5 : IntKind.i64.wrap (d1 : Int) = (d1 : Int) := by rw [IntKind.wrap_i64]; omega
          have hwf : Hid ((⟨kindG l0, (d1 : Int), (n2 : Int)⟩ : Ev).wf) := Lib.hid (by
            have h1 := kindG_bd l0
            unfold Ev.wf
            dsimp only
            omega)
          have k1 := hG.out.str hhs c1.out
          have k2 := hG.out.str hhs c2.out
          clear hd1 hn1 hn2 hS0 hS1 hS2 hfold HC cj b1 b2 m1 m2 h3 hZ
          obtain ⟨i49, hi49, hz49, hs49, hb49⟩ := info_parts info49
          go_upto_region 16 with (fail)
          clear hcu3 hcu'
          go_cut [9] (fun s9 wx => ∃ x : Nat, s9 = .pointer (some ⟨x, 0, none⟩) ∧ Hid (GE w W1 s v p c q d x ⟨0, (d1 : Int), (n2 : Int)⟩ wx))
          case first =>
            refine wp_region_held_drew (S := fun w' => w'.cell? ⟨hh, 1, none⟩ = some (.string S1) ∧ w'.cell? ⟨hh, 2, none⟩ = some (.string S2) ∧ Hid (GX w W1 s v p c q d w')) (by kernel_rfl) ⟨cell_keep (Below.refl _ _).drew k1, cell_keep (Below.refl _ _).drew k2, Lib.hid (hG.out.later (Below.refl _ _).drew)⟩ (fun hHeld => ?_)
            obtain ⟨wd, hwd⟩ : ∃ z, wr.drew = z := ⟨_, rfl⟩
            rw [hwd] at hHeld ⊢
            clear hwd k1 k2
            (refine wpAnyH_take (i := 0) (v := (.slice (some ⟨hh, 0, none⟩) 3 c')) rfl (by kernel_rfl) (by kernel_rfl) (by kernel_rfl) (fun _ _ _ h => h) (Or.inl ⟨by rfl, by intro w hSw; (try dsimp only at hSw); simp only [List.getElem_toArray, List.getElem_cons_zero, List.getElem_cons_succ]; go_simp⟩) (by assumption) ?_; simp only [Act.put, List.getElem_toArray, List.getElem_cons_zero, List.getElem_cons_succ, List.setIfInBounds_toArray, List.set_cons_zero, List.set_cons_succ])
            (refine wpAnyH_take (i := 1) (v := (.pointer (some ⟨hh, 1, none⟩))) rfl (by kernel_rfl) (by kernel_rfl) (by kernel_rfl) (fun _ _ _ h => h) (Or.inl ⟨by rfl, by intro w hSw; (try dsimp only at hSw); simp only [List.getElem_toArray, List.getElem_cons_zero, List.getElem_cons_succ]; go_simp⟩) (by assumption) ?_; simp only [Act.put, List.getElem_toArray, List.getElem_cons_zero, List.getElem_cons_succ, List.setIfInBounds_toArray, List.set_cons_zero, List.set_cons_succ])
            (refine wpAnyH_take (i := 2) (v := (.string S1)) rfl (by kernel_rfl) (by kernel_rfl) (by kernel_rfl) (fun _ _ _ h => h) (Or.inl ⟨by rfl, by intro w hSw; (try dsimp only at hSw); simp only [List.getElem_toArray, List.getElem_cons_zero, List.getElem_cons_succ]; go_simp⟩) (by assumption) ?_; simp only [Act.put, List.getElem_toArray, List.getElem_cons_zero, List.getElem_cons_succ, List.setIfInBounds_toArray, List.set_cons_zero, List.set_cons_succ])
            (refine wpAnyH_take (i := 6) (v := (.slice (some ⟨hh, 0, none⟩) 3 c')) rfl (by kernel_rfl) (by kernel_rfl) (by kernel_rfl) (fun _ _ _ h => h) (Or.inl ⟨by rfl, by intro w hSw; (try dsimp only at hSw); simp only [List.getElem_toArray, List.getElem_cons_zero, List.getElem_cons_succ]; go_simp⟩) (by assumption) ?_; simp only [Act.put, List.getElem_toArray, List.getElem_cons_zero, List.getElem_cons_succ, List.setIfInBounds_toArray, List.set_cons_zero, List.set_cons_succ])
            (refine wpAnyH_take (i := 7) (v := (.pointer (some ⟨hh, 2, none⟩))) rfl (by kernel_rfl) (by kernel_rfl) (by kernel_rfl) (fun _ _ _ h => h) (Or.inl ⟨by rfl, by intro w hSw; (try dsimp only at hSw); simp only [List.getElem_toArray, List.getElem_cons_zero, List.getElem_cons_succ]; go_simp⟩) (by assumption) ?_; simp only [Act.put, List.getElem_toArray, List.getElem_cons_zero, List.getElem_cons_succ, List.setIfInBounds_toArray, List.set_cons_zero, List.set_cons_succ])
            (refine wpAnyH_take (i := 8) (v := (.string S2)) rfl (by kernel_rfl) (by kernel_rfl) (by kernel_rfl) (fun _ _ _ h => h) (Or.inl ⟨by rfl, by intro w hSw; (try dsimp only at hSw); simp only [List.getElem_toArray, List.getElem_cons_zero, List.getElem_cons_succ]; go_simp⟩) (by assumption) ?_; simp only [Act.put, List.getElem_toArray, List.getElem_cons_zero, List.getElem_cons_succ, List.setIfInBounds_toArray, List.set_cons_zero, List.set_cons_succ])
            refine wpAnyH_ready (rs := [3, 11]) (by kernel_rfl) (by simp) ?_
            refine AllReadyH.cons rfl (fun K hK => ?_) (AllReadyH.cons rfl (fun K hK => ?_) AllReadyH.nil)
            · simp only [List.getElem_toArray, List.getElem_cons_zero, List.getElem_cons_succ]
              go_simp
              refine (N1.out _).mono ?_
              rintro e w2 ⟨rfl, hbc⟩
              refine hK.out _ _ (bS.later hHeld hbc) (fun hHeld2 => ?_)
              clear hK K hbc hHeld
              have hHeld := hHeld2
              clear hHeld2
              try simp only [Act.put, List.setIfInBounds_toArray, List.set_cons_zero, List.set_cons_succ]
              (refine wpAnyH_take (i := 4) (v := (.int .u64 (d1 : Int))) rfl (by kernel_rfl) (by kernel_rfl) (by kernel_rfl) (fun _ _ _ h => h) (Or.inl ⟨by rfl, by intro w hSw; (try dsimp only at hSw); simp only [List.getElem_toArray, List.getElem_cons_zero, List.getElem_cons_succ]; go_simp⟩) (by assumption) ?_; simp only [Act.put, List.getElem_toArray, List.getElem_cons_zero, List.getElem_cons_succ, List.setIfInBounds_toArray, List.set_cons_zero, List.set_cons_succ])
              (refine wpAnyH_take (i := 5) (v := (.int .i64 (d1 : Int))) rfl (by kernel_rfl) (by kernel_rfl) (by kernel_rfl) (fun _ _ _ h => h) (Or.inl ⟨by rfl, by intro w hSw; (try dsimp only at hSw); simp only [List.getElem_toArray, List.getElem_cons_zero, List.getElem_cons_succ]; go_simp⟩) (by assumption) ?_; simp only [Act.put, List.getElem_toArray, List.getElem_cons_zero, List.getElem_cons_succ, List.setIfInBounds_toArray, List.set_cons_zero, List.set_cons_succ])
              refine wpAnyH_ready (rs := [9, 11]) (by kernel_rfl) (by simp) ?_
              refine AllReadyH.cons rfl (fun K hK => ?_) (AllReadyH.cons rfl (fun K hK => ?_) AllReadyH.nil)
              · simp only [List.getElem_toArray, List.getElem_cons_zero, List.getElem_cons_succ]
                go_simp
                refine (N2.out _).mono ?_
                rintro e w3 ⟨rfl, hbc⟩
                refine hK.out _ _ (bS.later hHeld hbc) (fun hHeld2 => ?_)
                clear hK K hbc hHeld
                have hHeld := hHeld2
                clear hHeld2
                try simp only [Act.put, List.setIfInBounds_toArray, List.set_cons_zero, List.set_cons_succ]
                (refine wpAnyH_take (i := 10) (v := (.agg #[.int .i64 0, .int .i64 (d1 : Int), .int .u64 (n2 : Int)])) rfl (by kernel_rfl) (by kernel_rfl) (by kernel_rfl) (fun _ _ _ h => h) (Or.inl ⟨by rfl, by intro w hSw; (try dsimp only at hSw); simp only [List.getElem_toArray, List.getElem_cons_zero, List.getElem_cons_succ]; go_simp⟩) (by assumption) ?_; simp only [Act.put, List.getElem_toArray, List.getElem_cons_zero, List.getElem_cons_succ, List.setIfInBounds_toArray, List.set_cons_zero, List.set_cons_succ])
                refine wpAnyH_ready (rs := [11]) (by kernel_rfl) (by simp) ?_
                refine AllReadyH.cons rfl (fun K hK => ?_) AllReadyH.nil
                simp only [List.getElem_toArray, List.getElem_cons_zero, List.getElem_cons_succ]
                go_simp
                obtain ⟨y, hy⟩ : ∃ y, (World.heap w3).size = y := ⟨_, rfl⟩
                have hN : GE w W1 s v p c q d y ⟨0, 0, 0⟩ (World.alloc w3 (.cells #[.int .i64 0, .int .i64 0, .int .u64 0] 49)) := hy ▸ GE.new hHeld.2.2.out ⟨0, 0, 0⟩
                have bb : Below (World.heap w3).size w3 (World.alloc w3 (.cells #[.int .i64 0, .int .i64 0, .int .u64 0] 49)) := (Below.refl _ _).alloc (Nat.le_refl _) _
                obtain ⟨w4, hw2⟩ : ∃ wz, World.alloc w3 (.cells #[.int .i64 0, .int .i64 0, .int .u64 0] 49) = wz := ⟨_, rfl⟩
                rw [hw2] at bb hN
                simp only [hy, hw2]
                refine hK.out _ _ (bS.later hHeld bb) (fun hHeld2 => ?_)
                have hN := Lib.hid hN
                clear hK K hw2 hy bb hHeld
                have hHeld := And.intro (Lib.hid (show ∃ e, GE w W1 s v p c q d y e _ from ⟨_, hN.out⟩)) hHeld2
                clear hHeld2
                try simp only [Act.put, List.setIfInBounds_toArray, List.set_cons_zero, List.set_cons_succ]
                refine anyH_sub (S' := fun w' => Hid (∃ e, GE w W1 s v p c q d y e w') ∧ w'.cell? ⟨hh, 1, none⟩ = some (.string S1) ∧ w'.cell? ⟨hh, 2, none⟩ = some (.string S2) ∧ Hid (GX w W1 s v p c q d w')) (fun w h => h.2) _ _ _ _ ?_
                refine wpAnyH_ready (rs := [12]) (by kernel_rfl) (by simp) ?_
                refine AllReadyH.cons rfl (fun K hK => ?_) AllReadyH.nil
                rw [if_pos (by rfl)]
                refine wp_store_mid 49 (.tmp 9) (.tmp 98) rfl y 0 (ecl ⟨0, (d1 : Int), (n2 : Int)⟩).toArray rfl rfl hN.out.eb.there size49 (all_ecl _) ?_
                have hN2 := Lib.hid (hN.out.all ⟨0, (d1 : Int), (n2 : Int)⟩)
                simp only [List.toList_toArray]
                obtain ⟨wz, hwz⟩ : ∃ wz, World.setCells w4 y 0 (ecl ⟨0, (d1 : Int), (n2 : Int)⟩) = wz := ⟨_, rfl⟩
                rw [hwz] at hN2
                simp only [hwz]
                have hz1 := hN2.out.gx.str hhs c1.out
                have hz2 := hN2.out.gx.str hhs c2.out
                refine hK.out _ _ ⟨Lib.hid ⟨_, hN2.out⟩, hz1, hz2, Lib.hid hN2.out.gx⟩ (fun hHeld2 => ?_)
                clear hK K hwz hHeld hHeld2 hN hz1 hz2
                try simp only [Act.put, List.setIfInBounds_toArray, List.set_cons_zero, List.set_cons_succ]
                refine wpAnyH_done (by kernel_rfl) ?_ _
                go_wp2_with fail
                go_meet
                exact ⟨y, rfl, hN2⟩
              · simp only [List.getElem_toArray, List.getElem_cons_zero, List.getElem_cons_succ]
                go_simp
                obtain ⟨y, hy⟩ : ∃ y, (World.heap w2).size = y := ⟨_, rfl⟩
                have hN : GE w W1 s v p c q d y ⟨0, 0, 0⟩ (World.alloc w2 (.cells #[.int .i64 0, .int .i64 0, .int .u64 0] 49)) := hy ▸ GE.new hHeld.2.2.out ⟨0, 0, 0⟩
                have bb : Below (World.heap w2).size w2 (World.alloc w2 (.cells #[.int .i64 0, .int .i64 0, .int .u64 0] 49)) := (Below.refl _ _).alloc (Nat.le_refl _) _
                obtain ⟨w3, hw2⟩ : ∃ wz, World.alloc w2 (.cells #[.int .i64 0, .int .i64 0, .int .u64 0] 49) = wz := ⟨_, rfl⟩
                rw [hw2] at bb hN
                simp only [hy, hw2]
                refine hK.out _ _ (bS.later hHeld bb) (fun hHeld2 => ?_)
                have hN := Lib.hid hN
                clear hK K hw2 hy bb hHeld
                have hHeld := And.intro (Lib.hid (show ∃ e, GE w W1 s v p c q d y e _ from ⟨_, hN.out⟩)) hHeld2
                clear hHeld2
                try simp only [Act.put, List.setIfInBounds_toArray, List.set_cons_zero, List.set_cons_succ]
                refine anyH_sub (S' := fun w' => Hid (∃ e, GE w W1 s v p c q d y e w') ∧ w'.cell? ⟨hh, 1, none⟩ = some (.string S1) ∧ w'.cell? ⟨hh, 2, none⟩ = some (.string S2) ∧ Hid (GX w W1 s v p c q d w')) (fun w h => h.2) _ _ _ _ ?_
                refine wpAnyH_ready (rs := [9]) (by kernel_rfl) (by simp) ?_
                refine AllReadyH.cons rfl (fun K hK => ?_) AllReadyH.nil
                simp only [List.getElem_toArray, List.getElem_cons_zero, List.getElem_cons_succ]
                go_simp
                refine (N2.out _).mono ?_
                rintro e w4 ⟨rfl, hbc⟩
                refine hK.out _ _ ⟨Lib.hid (hHeld.1.out.imp fun _ h => h.later hbc), bS.later hHeld.2 hbc⟩ (fun hHeld2 => ?_)
                have hN2 := Lib.hid (hN.out.later hbc)
                clear hN
                have hN := hN2
                clear hN2
                clear hK K hbc hHeld
                have hHeld := hHeld2
                clear hHeld2
                try simp only [Act.put, List.setIfInBounds_toArray, List.set_cons_zero, List.set_cons_succ]
                (refine wpAnyH_take (i := 10) (v := (.agg #[.int .i64 0, .int .i64 (d1 : Int), .int .u64 (n2 : Int)])) rfl (by kernel_rfl) (by kernel_rfl) (by kernel_rfl) (fun _ _ _ h => h) (Or.inl ⟨by rfl, by intro w hSw; (try dsimp only at hSw); simp only [List.getElem_toArray, List.getElem_cons_zero, List.getElem_cons_succ]; go_simp⟩) (by assumption) ?_; simp only [Act.put, List.getElem_toArray, List.getElem_cons_zero, List.getElem_cons_succ, List.setIfInBounds_toArray, List.set_cons_zero, List.set_cons_succ])
                refine wpAnyH_ready (rs := [12]) (by kernel_rfl) (by simp) ?_
                refine AllReadyH.cons rfl (fun K hK => ?_) AllReadyH.nil
                rw [if_pos (by rfl)]
                refine wp_store_mid 49 (.tmp 9) (.tmp 98) rfl y 0 (ecl ⟨0, (d1 : Int), (n2 : Int)⟩).toArray rfl rfl hN.out.eb.there size49 (all_ecl _) ?_
                have hN2 := Lib.hid (hN.out.all ⟨0, (d1 : Int), (n2 : Int)⟩)
                simp only [List.toList_toArray]
                obtain ⟨wz, hwz⟩ : ∃ wz, World.setCells w4 y 0 (ecl ⟨0, (d1 : Int), (n2 : Int)⟩) = wz := ⟨_, rfl⟩
                rw [hwz] at hN2
                simp only [hwz]
                have hz1 := hN2.out.gx.str hhs c1.out
                have hz2 := hN2.out.gx.str hhs c2.out
                refine hK.out _ _ ⟨Lib.hid ⟨_, hN2.out⟩, hz1, hz2, Lib.hid hN2.out.gx⟩ (fun hHeld2 => ?_)
                clear hK K hwz hHeld hHeld2 hN hz1 hz2
                try simp only [Act.put, List.setIfInBounds_toArray, List.set_cons_zero, List.set_cons_succ]
                refine wpAnyH_done (by kernel_rfl) ?_ _
                go_wp2_with fail
                go_meet
                exact ⟨y, rfl, hN2⟩
            · simp only [List.getElem_toArray, List.getElem_cons_zero, List.getElem_cons_succ]
              go_simp
              obtain ⟨y, hy⟩ : ∃ y, (World.heap wd).size = y := ⟨_, rfl⟩
              have hN : GE w W1 s v p c q d y ⟨0, 0, 0⟩ (World.alloc wd (.cells #[.int .i64 0, .int .i64 0, .int .u64 0] 49)) := hy ▸ GE.new hHeld.2.2.out ⟨0, 0, 0⟩
              have bb : Below (World.heap wd).size wd (World.alloc wd (.cells #[.int .i64 0, .int .i64 0, .int .u64 0] 49)) := (Below.refl _ _).alloc (Nat.le_refl _) _
              obtain ⟨w2, hw2⟩ : ∃ wz, World.alloc wd (.cells #[.int .i64 0, .int .i64 0, .int .u64 0] 49) = wz := ⟨_, rfl⟩
              rw [hw2] at bb hN
              simp only [hy, hw2]
              refine hK.out _ _ (bS.later hHeld bb) (fun hHeld2 => ?_)
              have hN := Lib.hid hN
              clear hK K hw2 hy bb hHeld
              have hHeld := And.intro (Lib.hid (show ∃ e, GE w W1 s v p c q d y e _ from ⟨_, hN.out⟩)) hHeld2
              clear hHeld2
              try simp only [Act.put, List.setIfInBounds_toArray, List.set_cons_zero, List.set_cons_succ]
              refine anyH_sub (S' := fun w' => Hid (∃ e, GE w W1 s v p c q d y e w') ∧ w'.cell? ⟨hh, 1, none⟩ = some (.string S1) ∧ w'.cell? ⟨hh, 2, none⟩ = some (.string S2) ∧ Hid (GX w W1 s v p c q d w')) (fun w h => h.2) _ _ _ _ ?_
              refine wpAnyH_ready (rs := [3]) (by kernel_rfl) (by simp) ?_
              refine AllReadyH.cons rfl (fun K hK => ?_) AllReadyH.nil
              simp only [List.getElem_toArray, List.getElem_cons_zero, List.getElem_cons_succ]
              go_simp
              refine (N1.out _).mono ?_
              rintro e w3 ⟨rfl, hbc⟩
              refine hK.out _ _ ⟨Lib.hid (hHeld.1.out.imp fun _ h => h.later hbc), bS.later hHeld.2 hbc⟩ (fun hHeld2 => ?_)
              have hN2 := Lib.hid (hN.out.later hbc)
              clear hN
              have hN := hN2
              clear hN2
              clear hK K hbc hHeld
              have hHeld := hHeld2
              clear hHeld2
              try simp only [Act.put, List.setIfInBounds_toArray, List.set_cons_zero, List.set_cons_succ]
              (refine wpAnyH_take (i := 4) (v := (.int .u64 (d1 : Int))) rfl (by kernel_rfl) (by kernel_rfl) (by kernel_rfl) (fun _ _ _ h => h) (Or.inl ⟨by rfl, by intro w hSw; (try dsimp only at hSw); simp only [List.getElem_toArray, List.getElem_cons_zero, List.getElem_cons_succ]; go_simp⟩) (by assumption) ?_; simp only [Act.put, List.getElem_toArray, List.getElem_cons_zero, List.getElem_cons_succ, List.setIfInBounds_toArray, List.set_cons_zero, List.set_cons_succ])
              (refine wpAnyH_take (i := 5) (v := (.int .i64 (d1 : Int))) rfl (by kernel_rfl) (by kernel_rfl) (by kernel_rfl) (fun _ _ _ h => h) (Or.inl ⟨by rfl, by intro w hSw; (try dsimp only at hSw); simp only [List.getElem_toArray, List.getElem_cons_zero, List.getElem_cons_succ]; go_simp⟩) (by assumption) ?_; simp only [Act.put, List.getElem_toArray, List.getElem_cons_zero, List.getElem_cons_succ, List.setIfInBounds_toArray, List.set_cons_zero, List.set_cons_succ])
              refine wpAnyH_ready (rs := [9]) (by kernel_rfl) (by simp) ?_
              refine AllReadyH.cons rfl (fun K hK => ?_) AllReadyH.nil
              simp only [List.getElem_toArray, List.getElem_cons_zero, List.getElem_cons_succ]
              go_simp
              refine (N2.out _).mono ?_
              rintro e w4 ⟨rfl, hbc⟩
              refine hK.out _ _ ⟨Lib.hid (hHeld.1.out.imp fun _ h => h.later hbc), bS.later hHeld.2 hbc⟩ (fun hHeld2 => ?_)
              have hN2 := Lib.hid (hN.out.later hbc)
              clear hN
              have hN := hN2
              clear hN2
              clear hK K hbc hHeld
              have hHeld := hHeld2
              clear hHeld2
              try simp only [Act.put, List.setIfInBounds_toArray, List.set_cons_zero, List.set_cons_succ]
              (refine wpAnyH_take (i := 10) (v := (.agg #[.int .i64 0, .int .i64 (d1 : Int), .int .u64 (n2 : Int)])) rfl (by kernel_rfl) (by kernel_rfl) (by kernel_rfl) (fun _ _ _ h => h) (Or.inl ⟨by rfl, by intro w hSw; (try dsimp only at hSw); simp only [List.getElem_toArray, List.getElem_cons_zero, List.getElem_cons_succ]; go_simp⟩) (by assumption) ?_; simp only [Act.put, List.getElem_toArray, List.getElem_cons_zero, List.getElem_cons_succ, List.setIfInBounds_toArray, List.set_cons_zero, List.set_cons_succ])
              refine wpAnyH_ready (rs := [12]) (by kernel_rfl) (by simp) ?_
              refine AllReadyH.cons rfl (fun K hK => ?_) AllReadyH.nil
              rw [if_pos (by rfl)]
              refine wp_store_mid 49 (.tmp 9) (.tmp 98) rfl y 0 (ecl ⟨0, (d1 : Int), (n2 : Int)⟩).toArray rfl rfl hN.out.eb.there size49 (all_ecl _) ?_
              have hN2 := Lib.hid (hN.out.all ⟨0, (d1 : Int), (n2 : Int)⟩)
              simp only [List.toList_toArray]
              obtain ⟨wz, hwz⟩ : ∃ wz, World.setCells w4 y 0 (ecl ⟨0, (d1 : Int), (n2 : Int)⟩) = wz := ⟨_, rfl⟩
              rw [hwz] at hN2
              simp only [hwz]
              have hz1 := hN2.out.gx.str hhs c1.out
              have hz2 := hN2.out.gx.str hhs c2.out
              refine hK.out _ _ ⟨Lib.hid ⟨_, hN2.out⟩, hz1, hz2, Lib.hid hN2.out.gx⟩ (fun hHeld2 => ?_)
              clear hK K hwz hHeld hHeld2 hN hz1 hz2
              try simp only [Act.put, List.setIfInBounds_toArray, List.set_cons_zero, List.set_cons_succ]
              refine wpAnyH_done (by kernel_rfl) ?_ _
              go_wp2_with fail
              go_meet
              exact ⟨y, rfl, hN2⟩
          case rest =>
            obtain ⟨x, rfl, hGE0⟩ := hcut
            clear e1 e2 e5 k1 k2 N1 N2 hG
            go_wp2_with fail
            go_loopw [10] (fun vi wr => ∃ (j : Nat) (kd : Int), vi = .int .i64 (j : Int) ∧ 1 ≤ j ∧ j ≤ 4 ∧ Hid (kd = kindJ l0 j) ∧ Hid (GE w W1 s v p c q d x ⟨kd, (d1 : Int), (n2 : Int)⟩ wr)) (fun vi _ => 4 - (intOf vi).toNat)
            case atStart => exact ⟨1, 0, rfl, by omega, by omega, Lib.hid rfl, hGE0⟩
            case round =>
              obtain ⟨j, kd, rfl, hj1, hj4, hkd, hGE⟩ := hrel
              by_cases hj : j < 4
              · have k0 := hGE.out.gx.str hhs c0.out
                have p1 : (j : Int) ≤ 3 := by omega
                have p2 : (0 : Int) ≤ (j : Int) := by omega
                have p3 : (j : Int) < 4 := by omega
                obtain ⟨D, hD⟩ : ∃ D : ByteArray, ⟨(wordsL.getD j []).toArray⟩ = D := ⟨_, rfl⟩
                have hWD4 : Hid ((#[.string ⟨#[]⟩, .string ⟨#[116, 105, 109, 101, 114]⟩, .string ⟨#[116, 105, 109, 101]⟩, .string ⟨#[116, 105, 109, 101, 104]⟩] : Array Value)[j]? = some (.string D)) := Lib.hid (by
                  rw [← hD]
                  match j, hj with
                  | 0, _ => rfl
                  | 1, _ => rfl
                  | 2, _ => rfl
                  | 3, _ => rfl
                  | j + 4, h => omega)
                by_cases he : l0 = wordsL.getD j []
                · have hSD : S0 = D := by rw [← HW0.out, ← hD, he]
                  have hkj : Hid ((j : Int) = kindJ l0 (j + 1)) := Lib.hid (kindJ_yes hj1 he).symm
                  subst hSD
                  have r1 : (S0.toList == S0.toList) = true := beq_self_eq_true _
                  clear he hD hkd
                  go_wp2_with fail
                  refine wp_region_held_drew (S := fun w' => w'.cell? ⟨hh, 0, none⟩ = some (.string S0) ∧ Hid (GE w W1 s v p c q d x ⟨kd, (d1 : Int), (n2 : Int)⟩ w')) (by kernel_rfl) ⟨cell_keep (Below.refl _ _).drew k0, Lib.hid (hGE.out.later (Below.refl _ _).drew)⟩ (fun hHeld => ?_)
                  obtain ⟨wd, hwd⟩ : ∃ z, wr.drew = z := ⟨_, rfl⟩
                  rw [hwd] at hHeld ⊢
                  clear hwd k0 hGE
                  (refine wpAnyH_take (i := 0) (v := (.slice (some ⟨hh, 0, none⟩) 3 c')) rfl (by kernel_rfl) (by kernel_rfl) (by kernel_rfl) (fun _ _ _ h => h) (Or.inl ⟨by rfl, by intro w hSw; (try dsimp only at hSw); simp only [List.getElem_toArray, List.getElem_cons_zero, List.getElem_cons_succ]; go_simp⟩) (by assumption) ?_; simp only [Act.put, List.getElem_toArray, List.getElem_cons_zero, List.getElem_cons_succ, List.setIfInBounds_toArray, List.set_cons_zero, List.set_cons_succ])
                  (refine wpAnyH_take (i := 1) (v := (.pointer (some ⟨hh, 0, none⟩))) rfl (by kernel_rfl) (by kernel_rfl) (by kernel_rfl) (fun _ _ _ h => h) (Or.inl ⟨by rfl, by intro w hSw; (try dsimp only at hSw); simp only [List.getElem_toArray, List.getElem_cons_zero, List.getElem_cons_succ]; go_simp⟩) (by assumption) ?_; simp only [Act.put, List.getElem_toArray, List.getElem_cons_zero, List.getElem_cons_succ, List.setIfInBounds_toArray, List.set_cons_zero, List.set_cons_succ])
                  (refine wpAnyH_take (i := 2) (v := (.string S0)) rfl (by kernel_rfl) (by kernel_rfl) (by kernel_rfl) (fun _ _ _ h => h) (Or.inl ⟨by rfl, by intro w hSw; (try dsimp only at hSw); simp only [List.getElem_toArray, List.getElem_cons_zero, List.getElem_cons_succ]; go_simp⟩) (by assumption) ?_; simp only [Act.put, List.getElem_toArray, List.getElem_cons_zero, List.getElem_cons_succ, List.setIfInBounds_toArray, List.set_cons_zero, List.set_cons_succ])
                  (refine wpAnyH_take (i := 4) (v := (.int .i64 (j : Int))) rfl (by kernel_rfl) (by kernel_rfl) (by kernel_rfl) (fun _ _ _ h => h) (Or.inl ⟨by rfl, by intro w hSw; (try dsimp only at hSw); simp only [List.getElem_toArray, List.getElem_cons_zero, List.getElem_cons_succ]; go_simp⟩) (by assumption) ?_; simp only [Act.put, List.getElem_toArray, List.getElem_cons_zero, List.getElem_cons_succ, List.setIfInBounds_toArray, List.set_cons_zero, List.set_cons_succ])
                  refine wpAnyH_ready (rs := [3]) (by kernel_rfl) (by simp) ?_
                  refine AllReadyH.cons rfl (fun K hK => ?_) AllReadyH.nil
                  simp only [List.getElem_toArray, List.getElem_cons_zero, List.getElem_cons_succ]
                  go_simp
                  obtain ⟨y, hy⟩ : ∃ y, (World.heap wd).size = y := ⟨_, rfl⟩
                  have bb : Below (World.heap wd).size wd (World.alloc wd (.cells #[.string ⟨#[]⟩, .string ⟨#[116, 105, 109, 101, 114]⟩, .string ⟨#[116, 105, 109, 101]⟩, .string ⟨#[116, 105, 109, 101, 104]⟩] 9)) := (Below.refl _ _).alloc (Nat.le_refl _) _
                  have cy : (World.alloc wd (.cells #[.string ⟨#[]⟩, .string ⟨#[116, 105, 109, 101, 114]⟩, .string ⟨#[116, 105, 109, 101]⟩, .string ⟨#[116, 105, 109, 101, 104]⟩] 9)).cell? ⟨y, j, none⟩ = some (.string S0) := by rw [← hy, World.cell?_alloc_new]; exact hWD4.out
                  obtain ⟨w2, hw2⟩ : ∃ wz, World.alloc wd (.cells #[.string ⟨#[]⟩, .string ⟨#[116, 105, 109, 101, 114]⟩, .string ⟨#[116, 105, 109, 101]⟩, .string ⟨#[116, 105, 109, 101, 104]⟩] 9) = wz := ⟨_, rfl⟩
                  rw [hw2] at bb cy
                  simp only [hy, hw2]
                  have hGE2 := Lib.hid (hHeld.2.out.later bb)
                  refine hK.out _ _ ⟨cell_keep bb hHeld.1, hGE2⟩ (fun hHeld2 => ?_)
                  clear hK K hw2 hy bb hHeld
                  have hHeld := And.intro cy hHeld2
                  clear hHeld2 cy
                  try simp only [Act.put, List.setIfInBounds_toArray, List.set_cons_zero, List.set_cons_succ]
                  refine anyH_sub (S' := fun w' => w'.cell? ⟨y, j, none⟩ = some (.string S0) ∧ w'.cell? ⟨hh, 0, none⟩ = some (.string S0) ∧ Hid (GE w W1 s v p c q d x ⟨kd, (d1 : Int), (n2 : Int)⟩ w')) (fun w h => h.2) _ _ _ _ ?_
                  (refine wpAnyH_take (i := 5) (v := (.pointer (some ⟨y, j, none⟩))) rfl (by kernel_rfl) (by kernel_rfl) (by kernel_rfl) (fun _ _ _ h => h) (Or.inl ⟨by rfl, by intro w hSw; (try dsimp only at hSw); simp only [List.getElem_toArray, List.getElem_cons_zero, List.getElem_cons_succ]; go_simp⟩) (by assumption) ?_; simp only [Act.put, List.getElem_toArray, List.getElem_cons_zero, List.getElem_cons_succ, List.setIfInBounds_toArray, List.set_cons_zero, List.set_cons_succ])
                  (refine wpAnyH_take (i := 6) (v := (.string S0)) rfl (by kernel_rfl) (by kernel_rfl) (by kernel_rfl) (fun _ _ _ h => h) (Or.inl ⟨by rfl, by intro w hSw; (try dsimp only at hSw); simp only [List.getElem_toArray, List.getElem_cons_zero, List.getElem_cons_succ]; go_simp⟩) (by assumption) ?_; simp only [Act.put, List.getElem_toArray, List.getElem_cons_zero, List.getElem_cons_succ, List.setIfInBounds_toArray, List.set_cons_zero, List.set_cons_succ])
                  (refine wpAnyH_take (i := 7) (v := (.bool true)) rfl (by kernel_rfl) (by kernel_rfl) (by kernel_rfl) (fun _ _ _ h => h) (Or.inl ⟨by rfl, by intro w hSw; (try dsimp only at hSw); simp only [List.getElem_toArray, List.getElem_cons_zero, List.getElem_cons_succ]; go_simp⟩) (by assumption) ?_; simp only [Act.put, List.getElem_toArray, List.getElem_cons_zero, List.getElem_cons_succ, List.setIfInBounds_toArray, List.set_cons_zero, List.set_cons_succ])
                  refine wpAnyH_done (by kernel_rfl) ?_ _
                  clear hHeld
                  have x0 := hGE2.out.eb.range 0 (.int .i64 kd) rfl
                  have f0 := (hGE2.out.eb.there 0 (by decide)).2
                  rw [Nat.zero_add] at x0 f0
                  have hGE3 := Lib.hid (hGE2.out.kind (j : Int))
                  clear hWD4 r1
                  go_wp2
                  go_roundw
                  case rel => exact ⟨j + 1, (j : Int), by go_num, by omega, by omega, hkj, hGE3⟩
                  case measure => simp [intOf]; omega
                · have hSD : S0 ≠ D := fun e => he (by
                    rw [← HW0.out, ← hD] at e
                    have := congrArg (fun b : ByteArray => b.data.toList) e
                    simpa using this)
                  have hkj : Hid (kd = kindJ l0 (j + 1)) := Lib.hid (hkd.out.trans (kindJ_no hj1 he).symm)
                  have r1 : (S0.toList == D.toList) = false := toList_beq hSD
                  have r2 := toList_ne hSD
                  clear he hD hkd hSD
                  go_wp2_with fail
                  refine wp_region_held_drew (S := fun w' => w'.cell? ⟨hh, 0, none⟩ = some (.string S0) ∧ Hid (GE w W1 s v p c q d x ⟨kd, (d1 : Int), (n2 : Int)⟩ w')) (by kernel_rfl) ⟨cell_keep (Below.refl _ _).drew k0, Lib.hid (hGE.out.later (Below.refl _ _).drew)⟩ (fun hHeld => ?_)
                  obtain ⟨wd, hwd⟩ : ∃ z, wr.drew = z := ⟨_, rfl⟩
                  rw [hwd] at hHeld ⊢
                  clear hwd k0 hGE
                  (refine wpAnyH_take (i := 0) (v := (.slice (some ⟨hh, 0, none⟩) 3 c')) rfl (by kernel_rfl) (by kernel_rfl) (by kernel_rfl) (fun _ _ _ h => h) (Or.inl ⟨by rfl, by intro w hSw; (try dsimp only at hSw); simp only [List.getElem_toArray, List.getElem_cons_zero, List.getElem_cons_succ]; go_simp⟩) (by assumption) ?_; simp only [Act.put, List.getElem_toArray, List.getElem_cons_zero, List.getElem_cons_succ, List.setIfInBounds_toArray, List.set_cons_zero, List.set_cons_succ])
                  (refine wpAnyH_take (i := 1) (v := (.pointer (some ⟨hh, 0, none⟩))) rfl (by kernel_rfl) (by kernel_rfl) (by kernel_rfl) (fun _ _ _ h => h) (Or.inl ⟨by rfl, by intro w hSw; (try dsimp only at hSw); simp only [List.getElem_toArray, List.getElem_cons_zero, List.getElem_cons_succ]; go_simp⟩) (by assumption) ?_; simp only [Act.put, List.getElem_toArray, List.getElem_cons_zero, List.getElem_cons_succ, List.setIfInBounds_toArray, List.set_cons_zero, List.set_cons_succ])
                  (refine wpAnyH_take (i := 2) (v := (.string S0)) rfl (by kernel_rfl) (by kernel_rfl) (by kernel_rfl) (fun _ _ _ h => h) (Or.inl ⟨by rfl, by intro w hSw; (try dsimp only at hSw); simp only [List.getElem_toArray, List.getElem_cons_zero, List.getElem_cons_succ]; go_simp⟩) (by assumption) ?_; simp only [Act.put, List.getElem_toArray, List.getElem_cons_zero, List.getElem_cons_succ, List.setIfInBounds_toArray, List.set_cons_zero, List.set_cons_succ])
                  (refine wpAnyH_take (i := 4) (v := (.int .i64 (j : Int))) rfl (by kernel_rfl) (by kernel_rfl) (by kernel_rfl) (fun _ _ _ h => h) (Or.inl ⟨by rfl, by intro w hSw; (try dsimp only at hSw); simp only [List.getElem_toArray, List.getElem_cons_zero, List.getElem_cons_succ]; go_simp⟩) (by assumption) ?_; simp only [Act.put, List.getElem_toArray, List.getElem_cons_zero, List.getElem_cons_succ, List.setIfInBounds_toArray, List.set_cons_zero, List.set_cons_succ])
                  refine wpAnyH_ready (rs := [3]) (by kernel_rfl) (by simp) ?_
                  refine AllReadyH.cons rfl (fun K hK => ?_) AllReadyH.nil
                  simp only [List.getElem_toArray, List.getElem_cons_zero, List.getElem_cons_succ]
                  go_simp
                  obtain ⟨y, hy⟩ : ∃ y, (World.heap wd).size = y := ⟨_, rfl⟩
                  have bb : Below (World.heap wd).size wd (World.alloc wd (.cells #[.string ⟨#[]⟩, .string ⟨#[116, 105, 109, 101, 114]⟩, .string ⟨#[116, 105, 109, 101]⟩, .string ⟨#[116, 105, 109, 101, 104]⟩] 9)) := (Below.refl _ _).alloc (Nat.le_refl _) _
                  have cy : (World.alloc wd (.cells #[.string ⟨#[]⟩, .string ⟨#[116, 105, 109, 101, 114]⟩, .string ⟨#[116, 105, 109, 101]⟩, .string ⟨#[116, 105, 109, 101, 104]⟩] 9)).cell? ⟨y, j, none⟩ = some (.string D) := by rw [← hy, World.cell?_alloc_new]; exact hWD4.out
                  obtain ⟨w2, hw2⟩ : ∃ wz, World.alloc wd (.cells #[.string ⟨#[]⟩, .string ⟨#[116, 105, 109, 101, 114]⟩, .string ⟨#[116, 105, 109, 101]⟩, .string ⟨#[116, 105, 109, 101, 104]⟩] 9) = wz := ⟨_, rfl⟩
                  rw [hw2] at bb cy
                  simp only [hy, hw2]
                  have hGE2 := Lib.hid (hHeld.2.out.later bb)
                  refine hK.out _ _ ⟨cell_keep bb hHeld.1, hGE2⟩ (fun hHeld2 => ?_)
                  clear hK K hw2 hy bb hHeld
                  have hHeld := And.intro cy hHeld2
                  clear hHeld2 cy
                  try simp only [Act.put, List.setIfInBounds_toArray, List.set_cons_zero, List.set_cons_succ]
                  refine anyH_sub (S' := fun w' => w'.cell? ⟨y, j, none⟩ = some (.string D) ∧ w'.cell? ⟨hh, 0, none⟩ = some (.string S0) ∧ Hid (GE w W1 s v p c q d x ⟨kd, (d1 : Int), (n2 : Int)⟩ w')) (fun w h => h.2) _ _ _ _ ?_
                  (refine wpAnyH_take (i := 5) (v := (.pointer (some ⟨y, j, none⟩))) rfl (by kernel_rfl) (by kernel_rfl) (by kernel_rfl) (fun _ _ _ h => h) (Or.inl ⟨by rfl, by intro w hSw; (try dsimp only at hSw); simp only [List.getElem_toArray, List.getElem_cons_zero, List.getElem_cons_succ]; go_simp⟩) (by assumption) ?_; simp only [Act.put, List.getElem_toArray, List.getElem_cons_zero, List.getElem_cons_succ, List.setIfInBounds_toArray, List.set_cons_zero, List.set_cons_succ])
                  (refine wpAnyH_take (i := 6) (v := (.string D)) rfl (by kernel_rfl) (by kernel_rfl) (by kernel_rfl) (fun _ _ _ h => h) (Or.inl ⟨by rfl, by intro w hSw; (try dsimp only at hSw); simp only [List.getElem_toArray, List.getElem_cons_zero, List.getElem_cons_succ]; go_simp⟩) (by assumption) ?_; simp only [Act.put, List.getElem_toArray, List.getElem_cons_zero, List.getElem_cons_succ, List.setIfInBounds_toArray, List.set_cons_zero, List.set_cons_succ])
                  (refine wpAnyH_take (i := 7) (v := (.bool false)) rfl (by kernel_rfl) (by kernel_rfl) (by kernel_rfl) (fun _ _ _ h => h) (Or.inl ⟨by rfl, by intro w hSw; (try dsimp only at hSw); simp only [List.getElem_toArray, List.getElem_cons_zero, List.getElem_cons_succ]; go_simp⟩) (by assumption) ?_; simp only [Act.put, List.getElem_toArray, List.getElem_cons_zero, List.getElem_cons_succ, List.setIfInBounds_toArray, List.set_cons_zero, List.set_cons_succ])
                  refine wpAnyH_done (by kernel_rfl) ?_ _
                  clear hHeld
                  clear hWD4 r1 r2
                  go_wp2
                  go_roundw
                  case rel => exact ⟨j + 1, kd, by go_num, by omega, by omega, hkj, hGE2⟩
                  case measure => simp [intOf]; omega
              · obtain rfl : j = 4 := by omega
                have hkk : kd = kindG l0 := hkd.out.trans (kindJ_all l0)
                have p1 : ¬ ((4 : Nat) : Int) ≤ 3 := by omega
                have HKK := Lib.hid hkk
                clear hkd hj hkk
                have hrl := hGE.out.gx.rl
                have hbase := hGE.out.gx.core.le
                have hge := hGE.out.gx.core.ge
                have x32 := hGE.out.gx.core.bx.cell 32 (.slice q v.log.length d) (vcs_end hGE.out.gx.wf p c q d 3)
                have f32 := hGE.out.gx.core.bx.free 32 (by decide)
                have ltS := hGE.out.gx.core.bx.lt
                have m1 : v.log.length + 1 ≤ maxLen := by unfold maxLen; omega
                go_wp2_with (first
                  | (refine wpList_load_mid rfl 49 (.tmp 9) rfl x 0 rfl (ecl ⟨kd, (d1 : Int), (n2 : Int)⟩) _ hGE.out.eb.range Tryd.underlying49 rfl size49 ?_
                     simp only [ecl])
                  | (at_builtin; refine wpList_append_lies _ rfl _ _ 28 rfl W1.heap.size 49 i49 (.agg #[.int .i64 0, .int .i64 0, .int .u64 0]) 3 24 Tryd.underlying28 hi49 hz49 hs49 hb49 rfl (by decide) _ _ _ rfl (hrl.alloc _) ⟨wr.heap.size, 0, none⟩ 1 1 (ecl ⟨kd, (d1 : Int), (n2 : Int)⟩) rfl rfl (World.news_of_block (World.alloc_heap_new _ _)) (fun u hu => by simp only [ecl, List.mem_cons, List.not_mem_nil, or_false] at hu; rcases hu with rfl | rfl | rfl <;> rfl) (by decide) m1 (by omega) (by simp; omega) _ rfl ?_
                     intro g2 cap w5 hown hgrow hat hglt
                     have hb5 : Below wr.heap.size wr (wr.alloc (.cells #[Value.int .i64 kd, .int .i64 (d1 : Int), .int .u64 (n2 : Int)] 49)) := (Below.refl _ _).alloc (Nat.le_refl _) _
                     have neS : some (s + 1) ≠ (Value.slice q v.log.length d).ownBlock := ownNe hrl (by show s + 1 < _; omega)
                     have y32 : w5.cell? ⟨s + 1, 32, none⟩ = some (.slice q v.log.length d) := (hgrow.cell_far ⟨s + 1, 32, none⟩ (Nat.lt_of_lt_of_le ltS hb5.size) neS).trans (cell_keep hb5 x32)
                     have z32 : w5.frozen? ⟨s + 1, 32, none⟩ = false := (hgrow.frozen_far ⟨s + 1, 32, none⟩ (Nat.lt_of_lt_of_le ltS hb5.size) neS).trans ((hb5.frozen (p := ⟨s + 1, 32, none⟩) ltS).trans f32)
                     have GF : Hid (GX w W1 s { v with log := v.log ++ [⟨kindG l0, (d1 : Int), (n2 : Int)⟩] } p c (some ⟨g2, 0, none⟩) cap (w5.setCell ⟨s + 1, 32, none⟩ (.slice (some ⟨g2, 0, none⟩) (v.log.length + 1) cap))) := Lib.hid (by
                       rw [← HKK.out]
                       exact hGE.out.gx.logA hb5 ⟨kd, (d1 : Int), (n2 : Int)⟩ (by rw [HKK.out]; exact hwf.out) hown hgrow hat)
                     clear hown hgrow hat hglt hb5 neS))
                go_roundw
                case rel => exact ⟨k + 1, { v with log := v.log ++ [⟨kindG l0, (d1 : Int), (n2 : Int)⟩] }, p, c, some ⟨g2, 0, none⟩, cap, by omega, by go_num, by simp; omega, GF, hst, Lib.hid (fun h => by omega)⟩
                case measure => simp [intOf]; omega
        · have e3 : ((L.length : Int) == 3) = false := by rw [beq_eq_false_iff_ne]; omega
          have HF2 : Hid (foldG (k + 1) v (ls.drop (k + 1)) = V) := Lib.hid (by have := hfold.out; rwa [stepG_none (by omega) (by omega)] at this)
          clear hfold
          go_wp2
          go_roundw
          case rel => exact ⟨k + 1, v, p, c, q, d, by omega, by go_num, by omega, hG, HF2, Lib.hid (fun h => by omega)⟩
          case measure => simp [intOf]; omega
    · obtain rfl : k = ls.length := by omega
      have hvV : v = V := by
        have := hF.out
        rw [List.drop_eq_nil_of_le (Nat.le_refl _), foldG] at this
        exact this
      subst hvV
      have P := Lib.hid (put_any (vcs v p c q d) v wr hG.out.core.env hG.out.vc hVo.out.1 hVo.out.2)
      have hone := vcs_one v p c q d
      have hlen33 := vcs_len hG.out.wf p c q d
      have hwf := Lib.hid hG.out.wf
      obtain ⟨cs, hcs⟩ : ∃ cs, vcs v p c q d = cs := ⟨_, rfl⟩
      have bx := hG.out.core.bx
      rw [hcs] at bx hone hlen33 P
      have HCS := Lib.hid hcs
      have BX := Lib.hid bx
      have hi33 : (Tryd.prog.info? 30).map (·.size) = some cs.length := by rw [hlen33]; exact size30
      have hi33a : (Tryd.prog.info? 30).map (·.size) = some cs.toArray.size := hi33
      have hall := all_oneCell_toArray hone
      clear bx hcs hF hZ
      have hb := HB.out
      obtain ⟨fs, hfs⟩ : ∃ f, fmtS v = f := ⟨_, rfl⟩
      rw [hfs] at P hb
      have hE01 : (fmtE v = 0 ∧ fOk v = true) ∨ (fmtE v = 1 ∧ fOk v = false) := by
        unfold fmtE
        cases fOk v
        · exact .inr ⟨rfl, rfl⟩
        · exact .inl ⟨rfl, rfl⟩
      have q0 : ¬ (ls.length : Int) < (ls.length : Int) := by omega
      cases B with
      | true =>
        obtain ⟨r1, r2⟩ := Bool.and_eq_true _ _ ▸ hb.symm
        have r2 := of_decide_eq_true r2
        subst r2
        rcases hE01 with ⟨e1, _⟩ | ⟨_, e2⟩
        case inr => rw [e2] at r1; cases r1
        rw [e1] at P
        clear hb r1 hfs e1 HB hvl hone
        have r3 : (fs.toList == fs.toList) = true := beq_self_eq_true _
        go_wp2_with (first
          | (refine wpList_load_mid rfl 30 (.tmp 4) rfl (s + 1) 0 rfl cs _ BX.out.range Tryd.underlying30 rfl hi33 ?_)
          | (go_at_call 9; refine P.out.mono ?_; rintro e W2 ⟨rfl, hb2⟩; have G2 := Lib.hid (hG.out.later hb2); have B2 := Lib.hid (BX.out.later hb2)
             have hthere : W2.there s 0 cs.toArray.size := by have h0 := G2.out.core.b0.there; rw [← hlen33] at h0; exact h0)
          | (refine wpList_load_mid rfl 30 (.tmp 4) rfl (s + 1) 0 rfl cs _ B2.out.range Tryd.underlying30 rfl hi33 ?_)
          | (refine wpList_store_mid rfl 30 (.tmp 2) (.tmp 132) rfl s 0 cs.toArray rfl rfl hthere hi33a hall ?_))
        refine bodyPost_ret (v := .tuple #[.agg cs.toArray, .int .i64 0]) (results11 _ _ s 0 cs rfl rfl (G2.out.core.b0.all cs hlen33).range hi33) rfl ?_
        have hvc := G2.out.vc_end cs
        rw [HCS.out] at hvc
        exact ⟨by rw [HS0.out]; exact below_cells' (Nat.le_refl s) cs 0 W2 G2.out.core.below, cs, hvc, rfl⟩
      | false =>
        have hbad : fmtE v = 1 ∨ (fmtE v = 0 ∧ (fs.toList == S.toList) = false) := by
          rcases hE01 with ⟨e1, e2⟩ | ⟨e1, _⟩
          · right
            rw [e2, Bool.true_and] at hb
            exact ⟨e1, toList_beq (of_decide_eq_false hb.symm)⟩
          · exact .inl e1
        clear hb hfs hE01 HB hvl hone
        have hall0 := all_oneCell_toArray (fl_one none 0 0 false)
        have hi33z : (Tryd.prog.info? 30).map (·.size) = some (fl (.slice none 0 0) false).length := size30
        have hi33y : (Tryd.prog.info? 30).map (·.size) = some (fl (.slice none 0 0) false).toArray.size := size30
        rcases hbad with e1 | ⟨e1, r3⟩
        all_goals
          rw [e1] at P
          clear e1
          go_wp2_with (first
            | (refine wpList_load_mid rfl 30 (.tmp 4) rfl (s + 1) 0 rfl cs _ BX.out.range Tryd.underlying30 rfl hi33 ?_)
            | (go_at_call 9; refine P.out.mono ?_; rintro e W2 ⟨rfl, hb2⟩; have G2 := Lib.hid (hG.out.later hb2)
               have hthere : W2.there s 0 (fl (.slice none 0 0) false).toArray.size := G2.out.core.b0.there)
            | (refine wpList_store_mid rfl 30 (.tmp 2) (.tmp 131) rfl s 0 (fl (.slice none 0 0) false).toArray rfl rfl hthere hi33y hall0 ?_))
          refine bodyPost_ret (v := .tuple #[.agg (fl (.slice none 0 0) false).toArray, .int .i64 2]) (results11 _ _ s 2 (fl (.slice none 0 0) false) rfl rfl (G2.out.core.b0.all _ rfl).range hi33z) rfl ?_
          exact ⟨by rw [HS0.out]; exact below_cells' (Nat.le_refl s) _ 0 W2 G2.out.core.below, fl (.slice none 0 0) false, ⟨zeroV_wf, none, 0, none, 0, fl_zero, fun k c hk => (by cases hk), fun k e hk => (by cases hk)⟩, rfl⟩
end Go.Proofs.YtnfkimhhgflfjaaDoor.Rep
