/- report.read, report.unhex and slices.Index, walked. -/
import Derived.Test.YtnfkimhhgflfjaaDoorR5
namespace Go.Proofs.YtnfkimhhgflfjaaDoor.Rep
open Go Go.RowKit
set_option linter.unusedVariables false
set_option linter.unusedSimpArgs false
/-! ### report.read, unhex, slices.Index -/
def readN (l : List UInt8) : Nat := match Lib.parseUintB 64 l with | .ok u => u | .range => 18446744073709551615 | _ => 0
theorem below_bytes {w w' : World} {t : TypeId} (h : w' = w ∨ ∃ s, w' = Lib.bytesWorld w t s) : Below w.heap.size w w' := by
  rcases h with rfl | ⟨s, rfl⟩
  · exact Below.refl _ _
  · exact Lib.bytesWorld_below _ _ _
theorem pu_any (s : ByteArray) (hlim : s.size ≤ 281474976710656) (W : World) (hE : Env W) :
    Calls Tryd.prog 42 #[.string s, .int .i64 10, .int .i64 64] W fun e w' => (∃ er, e = .returned (.tuple #[.int .u64 (readN s.data.toList : Int), er])) ∧ Below W.heap.size W w' := by
  obtain ⟨e1, h1, h1'⟩ := hE.es
  obtain ⟨e2, h2, h2'⟩ := hE.er
  unfold readN
  cases h : Lib.parseUintB 64 s.data.toList with
  | ok v => exact (Tryd.strconv_ParseUint_10_at64_ok s (by omega) v h W).mono fun e w' ⟨a, b⟩ => ⟨⟨_, a⟩, below_bytes (b.imp id fun b => ⟨_, b⟩)⟩
  | range => exact (Tryd.strconv_ParseUint_10_at64_range s hlim h e2 W h2 h2').mono fun e w' ⟨_, a, _, _, b⟩ => ⟨⟨_, a⟩, b⟩
  | _ => exact (Tryd.strconv_ParseUint_10_at64_syntax s hlim h e1 W h1 h1').mono fun e w' ⟨_, a, _, _, b⟩ => ⟨⟨_, a⟩, b⟩
/-- report.read. -/
theorem read_any (s : ByteArray) (hlim : s.size ≤ 281474976710656) (W : World) (hE : Env W) :
    Calls Tryd.prog 27 #[.string s] W fun e w' => e = .returned (.int .u64 (readN s.data.toList : Int)) ∧ Below W.heap.size W w' := by
  have P := pu_any s hlim W hE
  obtain ⟨n, hn⟩ : ∃ n, readN s.data.toList = n := ⟨_, rfl⟩
  rw [hn] at P ⊢
  clear hE hn
  go_enter Tryd.func27, Tryd.ntmps27
  go_wp2_with fail
  refine P.mono ?_
  rintro e w1 ⟨⟨er, rfl⟩, hb⟩
  go_wp2
  go_ret
  exact ⟨rfl, hb⟩
theorem parseM_lt (M : Nat) : ∀ (l : List UInt8) (acc n : Nat), acc ≤ M → Lib.parseUintM M acc l = .ok n → n ≤ M
  | [], acc, n, h, e => by
    simp only [Lib.parseUintM] at e
    injection e with e
    omega
  | b :: l, acc, n, h, e => by
    simp only [Lib.parseUintM] at e
    split at e
    · split at e
      · cases e
      · split at e
        · cases e
        · exact parseM_lt M l _ n (by omega) e
    · cases e
theorem readN_lt (l : List UInt8) : readN l ≤ 18446744073709551615 := by
  unfold readN
  split
  · rename_i u h
    unfold Lib.parseUintB at h
    split at h
    · cases h
    · exact parseM_lt _ l 0 u (by omega) h
  · omega
  · omega
def dgL : List UInt8 := [48, 49, 50, 51, 52, 53, 54, 55, 56, 57, 97, 98, 99, 100, 101, 102]
def ix (c : UInt8) : Int := Lib.indexByte dgL c
theorem ix_bd : ∀ c : UInt8, -1 ≤ ix c ∧ ix c ≤ 15 := by
  intro c
  have : ∀ n : Nat, n < 256 → (-1 ≤ ix (UInt8.ofNat n) ∧ ix (UInt8.ofNat n) ≤ 15) := by decide +kernel
  have h := this c.toNat c.toNat_lt
  rwa [UInt8.ofNat_toNat] at h
def pv (a b : UInt8) : UInt8 := UInt8.ofNat ((16 * ix a + ix b) % 256).toNat
def unhexL : List UInt8 → List UInt8
  | a :: b :: r => pv a b :: unhexL r
  | _ => []
theorem pv_val (a b : UInt8) : IntKind.u8.wrap (16 * ix a + ix b) = ((pv a b).toNat : Int) := by
  have h1 := ix_bd a
  have h2 := ix_bd b
  rw [IntKind.wrap_u8]
  unfold pv
  have : ((16 * ix a + ix b) % 256).toNat < 256 := by omega
  rw [UInt8.toNat_ofNat']
  omega
def kindI (l : List UInt8) : Int := if l = [] then 0 else if l = [116, 105, 109, 101, 114] then 1 else if l = [116, 105, 109, 101] then 2 else if l = [116, 105, 109, 101, 104] then 3 else -1
theorem info5 : (Tryd.prog.info? 5).map (fun i => (i.zero, i.size, i.bytes)) = some (some (.int .u8 0), 1, 1) := by kernel_rfl
theorem slice_of_own {W : World} {n₀ e sz k : Nat} {v : Value} {l : List Value} (h : W.ownsRow n₀ e sz v k l) : ∃ a cap, v = .slice a k cap := by
  rcases h.2 with ⟨rfl, rfl⟩ | ⟨g, cap, cur, rfl, _⟩
  · exact ⟨_, _, rfl⟩
  · exact ⟨_, _, rfl⟩
theorem bytes_of_row {n₀ : Nat} {W : World} {p : Option Addr} {k cap : Nat} {l : List UInt8} (h : W.ownsRow n₀ 5 1 (.slice p k cap) k (Lib.byteCells l)) (hl : l.length = k) : Bytes W p l := by
  subst hl
  intro j x hj
  have hjl := (List.getElem?_eq_some_iff.1 hj).1
  have h' := h
  rcases h.2 with ⟨_, h1⟩ | ⟨g, cap', cur, he, _, hh, hle, _⟩
  · omega
  · cases he
    have hc := h'.cells (g := g) rfl j (.int .u8 (x.toNat : Int)) (by unfold Lib.byteCells; rw [List.getElem?_map, hj]; rfl)
    exact ⟨⟨g, 0, none⟩, rfl, World.block_lt_of_cell? W _ hc, hc⟩
/-- How report.unhex ends. -/
def UnE (B : Nat) (l : List UInt8) (e : Ending) (w' : World) : Prop := ∃ p cap, e = .returned (.slice p l.length cap) ∧ Bytes w' p l ∧ ∀ a, p = some a → B ≤ a.block
theorem row_base {W : World} {n₀ e sz k cap : Nat} {p : Option Addr} {l : List Value} (h : W.ownsRow n₀ e sz (.slice p k cap) k l) : ∀ a, p = some a → n₀ ≤ a.block := by
  intro a ha
  rcases h.2 with ⟨h1, _⟩ | ⟨g, cap', cur, he, hg, _⟩
  · cases h1; cases ha
  · cases he; cases ha; exact hg
theorem unhexL_drop {l : List UInt8} {i : Nat} {a b : UInt8} (ha : l[i]? = some a) (hb : l[i + 1]? = some b) : unhexL (l.drop i) = pv a b :: unhexL (l.drop (i + 2)) := by
  have h1 : i < l.length := (List.getElem?_eq_some_iff.1 ha).1
  have h2 : i + 1 < l.length := (List.getElem?_eq_some_iff.1 hb).1
  have e1 : l[i] = a := (List.getElem?_eq_some_iff.1 ha).2
  have e2 : l[i + 1] = b := (List.getElem?_eq_some_iff.1 hb).2
  rw [List.drop_eq_getElem_cons h1, List.drop_eq_getElem_cons h2, e1, e2, unhexL]
theorem unhexL_end {l : List UInt8} {i : Nat} (h : l.length ≤ i + 1) : unhexL (l.drop i) = [] := by
  have hl : (l.drop i).length ≤ 1 := by rw [List.length_drop]; omega
  cases hd : l.drop i with
  | nil => rfl
  | cons x r =>
    rw [hd] at hl
    cases r with
    | nil => rfl
    | cons y r => simp at hl
set_option maxRecDepth 100000 in
set_option maxHeartbeats 8000000 in
/-- report.unhex. -/
theorem unhex_any (l : List UInt8) (hl : l.length ≤ 1000000) (W : World) :
    Calls Tryd.prog 41 #[.string ⟨l.toArray⟩] W fun e w' => UnE W.heap.size (unhexL l) e w' ∧ Below W.heap.size W w' := by
  obtain ⟨i0x, hi, hz0, hz1, hz2⟩ := info_parts info5
  have hget := Lib.hid (fun k c h => ba_get l k c h)
  obtain ⟨S, hS⟩ : ∃ S : ByteArray, ⟨l.toArray⟩ = S := ⟨_, rfl⟩
  have hsz : S.size = l.length := by rw [← hS]; exact List.size_toArray
  rw [hS] at hget ⊢
  clear hS
  obtain ⟨n, hn⟩ : ∃ n, l.length = n := ⟨_, rfl⟩
  rw [hn] at hsz hl
  have HN := Lib.hid hn
  clear hn
  have I := Lib.hid (fun c w => Tryd.strings_IndexByte ⟨#[48, 49, 50, 51, 52, 53, 54, 55, 56, 57, 97, 98, 99, 100, 101, 102]⟩ c w)
  have I : Hid (∀ (c : UInt8) (w : World), Calls Tryd.prog 52 #[.string ⟨#[48, 49, 50, 51, 52, 53, 54, 55, 56, 57, 97, 98, 99, 100, 101, 102]⟩, .int .u8 (c.toNat : Int)] w fun e w' => e = .returned (.int .i64 (ix c)) ∧ w' = w) := Lib.hid (fun c w => by
    have := I.out (c.toNat : Int) w
    rw [show ((c.toNat : Int).toNat.toUInt8) = c by simp] at this
    exact this)
  go_enter Tryd.func41, Tryd.ntmps41
  go_wp2_with fail
  go_loopw [3, 4] (fun vo vi wr => ∃ (k : Nat) (A : List UInt8), vi = .int .i64 (((2 * k : Nat)) : Int) ∧ 2 * k ≤ n + 1 ∧ A.length = k ∧ wr.ownsRow W.heap.size 5 1 vo k (Lib.byteCells A) ∧ Hid (A ++ unhexL (l.drop (2 * k)) = unhexL l) ∧ Hid (Below W.heap.size W wr)) (fun _ vi _ => n + 2 - (intOf vi).toNat)
  case atStart => exact ⟨0, [], rfl, by omega, rfl, World.ownsRow_nil _ _ _ _, Lib.hid rfl, Lib.hid (by repeat (first | exact Below.refl _ _ | refine Below.drew ?_ | refine bdrew ?_ _))⟩
  case round =>
    obtain ⟨k, A, rfl, hk, hAl, hown, hA, hB⟩ := hrel
    have hkk : k ≤ 1000000 := by omega
    have hm1 : k + 1 ≤ maxLen := by unfold maxLen; omega
    have hm2 : (k + 1) * 1 ≤ 140737488355328 := by omega
    obtain ⟨i, hie⟩ : ∃ i, 2 * k = i := ⟨_, rfl⟩
    have HI := Lib.hid hie
    simp only [hie]
    rw [hie] at hA hk
    by_cases hin : i + 1 < n
    · obtain ⟨a, ha⟩ : ∃ a, l[i]? = some a := ⟨l[i]'(by rw [HN.out]; omega), List.getElem?_eq_getElem _⟩
      obtain ⟨b, hb⟩ : ∃ b, l[i + 1]? = some b := ⟨l[i + 1]'(by rw [HN.out]; omega), List.getElem?_eq_getElem _⟩
      have hA2 : Hid ((A ++ [pv a b]) ++ unhexL (l.drop (i + 2)) = unhexL l) := Lib.hid (by rw [← hA.out, unhexL_drop ha hb]; simp)
      have hlt1 : i < S.size := by omega
      have hlt2 : i + 1 < S.size := by omega
      have g1 : S[i]'hlt1 = a := Option.some.inj ((getElem?_pos S i hlt1).symm.trans (hget.out i a ha))
      have g2 : S[i + 1]'hlt2 = b := Option.some.inj ((getElem?_pos S (i + 1) hlt2).symm.trans (hget.out (i + 1) b hb))
      have I1 := fun w => I.out a w
      have I2 := fun w => I.out b w
      have b1 := ix_bd a
      have b2 := ix_bd b
      have hpv := pv_val a b
      obtain ⟨x, hx⟩ : ∃ x, ix a = x := ⟨_, rfl⟩
      obtain ⟨y, hy⟩ : ∃ y, ix b = y := ⟨_, rfl⟩
      obtain ⟨z, hz⟩ : ∃ z, pv a b = z := ⟨_, rfl⟩
      rw [hx] at I1 b1 hpv
      rw [hy] at I2 b2 hpv
      rw [hz] at hpv hA2
      have HI1 := Lib.hid I1
      have HI2 := Lib.hid I2
      obtain ⟨b11, b12⟩ := b1
      obtain ⟨b21, b22⟩ := b2
      have r1 : IntKind.i64.wrap (16 * x) = 16 * x := by rw [IntKind.wrap_i64]; omega
      have r2 : IntKind.i64.wrap (16 * x + y) = 16 * x + y := by rw [IntKind.wrap_i64]; omega
      have r3 : IntKind.i64.wrap ((i : Int) + 1) = (i : Int) + 1 := by rw [IntKind.wrap_i64]; omega
      have q1 : (i : Int) + 1 < (n : Int) := by omega
      have q2 : (0 : Int) ≤ (i : Int) := by omega
      have q3 : (i : Int) < (n : Int) := by omega
      have q4 : (0 : Int) ≤ (i : Int) + 1 := by omega
      have q5 : ((i : Int) + 1).toNat = i + 1 := by omega
      have hbase : W.heap.size ≤ wr.heap.size := hB.out.size
      clear ha hb hx hy hz hie I1 I2
      go_wp2_with fail
      go_region_held3 (fun w' => True) (first | trivial)
        (first
          | (go_at_call_of 52 (Value.int .u8 (a.toNat : Int)); refine (HI1.out _).mono ?_; rintro e w' ⟨rfl, rfl⟩)
          | (go_at_call_of 52 (Value.int .u8 (b.toNat : Int)); refine (HI2.out _).mono ?_; rintro e w' ⟨rfl, rfl⟩)
          | (refine step_append_lies _ (by rfl) _ _ _ (by rfl) W.heap.size 5 i0x (.int .u8 0) 1 1 Tryd.underlying27 hi hz0 hz1 hz2 (by rfl) (by decide) _ k _ (by rfl) (hown.alloc _) ⟨wr.heap.size, 0, none⟩ 1 1 [.int .u8 (z.toNat : Int)] (by rfl) (by rfl) (cell_one_new wr _ 5) (fun u hu => by simp at hu; subst hu; rfl) (by decide) hm1 hm2 (by simp; omega) (wr.heap.size + 1) (by simp) ?_; intro g cap w5 hown5 hgrow5 hat5 hlt5))
      all_goals
        have hb3 : Below W.heap.size W w5 := Below.grown (hB.out.alloc hbase _).drew hgrow5 (by simp; omega) (fun j hj => (hown.lt _ hj).1)
        have hown6 : w5.ownsRow W.heap.size 5 1 (.slice (some ⟨g, 0, none⟩) (k + 1) cap) (k + 1) (Lib.byteCells (A ++ [z])) := by rw [← bc_snoc]; exact hown5
        have Hown := Lib.hid hown6
        have HB3 := Lib.hid hb3
        have hi2 : Hid ((i : Int) + 2 = ((2 * (k + 1) : Nat) : Int) ∧ i + 2 = 2 * (k + 1)) := Lib.hid (by have := HI.out; omega)
        have HAL := Lib.hid hAl
        clear hown hown5 hown6 hgrow5 hat5 hlt5 hb3 hAl r1 r2 r3 q5
        go_wp2
        go_roundw
        case rel => exact ⟨k + 1, A ++ [z], by rw [← hi2.out.1], by have := hi2.out.2; omega, by rw [List.length_append, HAL.out]; rfl, Hown.out, by rw [← hi2.out.2]; exact hA2, HB3⟩
        case measure => simp [intOf]; omega
    · have hA' : Hid (A = unhexL l) := Lib.hid (by have := hA.out; rw [unhexL_end (by rw [HN.out]; omega), List.append_nil] at this; exact this)
      have q1 : ¬ (i : Int) + 1 < (n : Int) := by omega
      obtain ⟨ao, cap, rfl⟩ := slice_of_own hown
      have Hown := Lib.hid hown
      have HAL := Lib.hid hAl
      clear hown hA hAl hie
      go_wp2
      go_ret
      exact ⟨⟨ao, cap, by rw [← hA'.out, HAL.out]; rfl, by rw [← hA'.out]; exact bytes_of_row Hown.out HAL.out, row_base Hown.out⟩, hB.out⟩
theorem toList_inj {a b : ByteArray} (h : a.toList = b.toList) : a = b := by
  rw [ByteArray.toList_eq, ByteArray.toList_eq] at h
  exact ByteArray.ext (Array.ext' h)
theorem toList_ne {a b : ByteArray} (h : a ≠ b) : ¬ a.toList = b.toList := fun e => h (toList_inj e)
theorem toList_beq {a b : ByteArray} (h : a ≠ b) : (a.toList == b.toList) = false := beq_eq_false_iff_ne.2 (toList_ne h)
theorem kindI_yes : ∀ (l : List UInt8) (k : Nat), k < 4 → wordsL.getD k [] = l → kindI l = (k : Int)
  | _, 0, _, rfl => rfl
  | _, 1, _, rfl => rfl
  | _, 2, _, rfl => rfl
  | _, 3, _, rfl => rfl
  | _, k + 4, h, _ => absurd h (by omega)
theorem kindI_no (l : List UInt8) (h : ∀ k, k < 4 → wordsL.getD k [] ≠ l) : kindI l = -1 := by
  unfold kindI
  rw [if_neg (fun e => h 0 (by omega) e.symm), if_neg (fun e => h 1 (by omega) e.symm), if_neg (fun e => h 2 (by omega) e.symm), if_neg (fun e => h 3 (by omega) e.symm)]
set_option maxRecDepth 100000 in
set_option maxHeartbeats 4000000 in
/-- slices.Index of a word among the words. -/
theorem index_any (l : List UInt8) (W : World) (hE : Env W) :
    Calls Tryd.prog 26 #[.slice (some ⟨0, 0, none⟩) 4 4, .string ⟨l.toArray⟩] W fun e w' => e = .returned (.int .i64 (kindI l)) ∧ w' = W := by
  have HW := Lib.hid hE.words
  have HY := Lib.hid (fun k h e => kindI_yes l k h e)
  have HN := Lib.hid (kindI_no l)
  have hinj : Hid (∀ k, (⟨(wordsL.getD k []).toArray⟩ : ByteArray) = ⟨l.toArray⟩ → wordsL.getD k [] = l) := Lib.hid (fun k e => by have := congrArg (fun b : ByteArray => b.data.toList) e; simpa using this)
  have hbk : Hid (∀ k, wordsL.getD k [] = l → (⟨(wordsL.getD k []).toArray⟩ : ByteArray) = ⟨l.toArray⟩) := Lib.hid (fun k e => by rw [e])
  obtain ⟨S, hS⟩ : ∃ S : ByteArray, ⟨l.toArray⟩ = S := ⟨_, rfl⟩
  rw [hS] at hinj hbk ⊢
  obtain ⟨K, hK⟩ : ∃ K, kindI l = K := ⟨_, rfl⟩
  rw [hK] at HY HN ⊢
  clear hE hS hK
  go_enter Tryd.func26, Tryd.ntmps26
  go_wp2_with fail
  go_loop [8] (fun vi => ∃ k : Nat, k ≤ 4 ∧ vi = .int .i64 (k : Int) ∧ Hid (∀ j, j < k → wordsL.getD j [] ≠ l)) (fun vi => 4 - (intOf vi).toNat)
  case atStart => exact ⟨0, by omega, rfl, Lib.hid (fun j h => by omega)⟩
  case round =>
    obtain ⟨k, hk, rfl, hno⟩ := hrel
    by_cases hk4 : k < 4
    · have hc := HW.out k hk4
      have q1 : (k : Int) < 4 := by omega
      have q2 : (0 : Int) ≤ (k : Int) := by omega
      by_cases he : wordsL.getD k [] = l
      · have hy := HY.out k hk4 he
        have hb := hbk.out k he
        rw [hb] at hc
        clear hb he
        subst hy
        go_wp2
        go_ret
        exact ⟨rfl, rfl⟩
      · have hb : (⟨(wordsL.getD k []).toArray⟩ : ByteArray) ≠ S := fun e => he (hinj.out k e)
        have hno2 : Hid (∀ j, j < k + 1 → wordsL.getD j [] ≠ l) := Lib.hid (fun j hj => by
          by_cases h : j < k
          · exact hno.out j h
          · obtain rfl : j = k := by omega
            exact he)
        obtain ⟨D, hD⟩ : ∃ D : ByteArray, ⟨(wordsL.getD k []).toArray⟩ = D := ⟨_, rfl⟩
        rw [hD] at hc hb
        have h1 := toList_beq (fun e : S = D => hb e.symm)
        have h2 := toList_ne (fun e : S = D => hb e.symm)
        clear hD hb he
        go_wp2
        go_round
        case rel => exact ⟨k + 1, by omega, by go_num, hno2⟩
        case measure => simp [intOf]; omega
    · obtain rfl : k = 4 := by omega
      have hz : K = -1 := HN.out (fun j hj => hno.out j hj)
      subst hz
      go_wp2
      go_ret
      exact ⟨rfl, rfl⟩
end Go.Proofs.YtnfkimhhgflfjaaDoor.Rep
