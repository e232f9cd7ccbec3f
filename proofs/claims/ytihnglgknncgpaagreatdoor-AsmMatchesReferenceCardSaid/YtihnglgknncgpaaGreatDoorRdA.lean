/- Numerals read back; fields joined and split. The closures of asm.read, walked. What lies there from the start; the closures of asm.read that read numbers, walked. The state of asm.read: its boxes, its fields, its instruction. -/
import Derived.Test.YtihnglgknncgpaaGreatDoorFmtA
import Derived.Lib.ParseIntBMem
import Derived.Lib.SplitLaws
import Derived.Lib.Join
import Derived.Test.YtihnglgknncgpaaGreatDoorFmtB
import Derived.Laws.Slices
import Derived.RangeFuncBox
import Derived.Lib.AtoiErrMem
import Derived.Deep.MidRow
import Derived.Laws.EntriesVeiled
namespace Go.Proofs.YtihnglgknncgpaaGreatDoor.Asm
open Go Go.RowKit Go.Proofs.YtihnglgknncgpaaGreatDoor.PAsmEveryWordHasOneLine Go.Proofs.YtihnglgknncgpaaGreatDoorW.PrintWords Go.Proofs.YtihnglgknncgpaaGreatDoorW.PrintLast Go.Proofs.YtihnglgknncgpaaGreatDoorW.PrintMore Go.Proofs.YtihnglgknncgpaaGreatDoor.Bm Go.Proofs.YtihnglgknncgpaaGreatDoor.Isa
set_option linter.unusedVariables false
set_option linter.unusedSimpArgs false
/-! ### Numerals read back -/
theorem u8_of {d : Nat} (h : d < 10) : (UInt8.ofNat (48 + d)).toNat = 48 + d := by
  rw [UInt8.toNat_ofNat']
  omega
theorem pM_snoc (M : Nat) (c : UInt8) (d : Nat) (hc : c.toNat = 48 + d) (hd : d < 10) :
    ∀ (l : List UInt8) (acc m : Nat), Lib.parseUintM M acc l = .ok m → m < 1844674407370955162 → m * 10 + d ≤ M → Lib.parseUintM M acc (l ++ [c]) = .ok (m * 10 + d)
  | [], acc, m, h, hm, hM' => by
    simp only [Lib.parseUintM] at h
    injection h with h
    subst h
    simp only [List.nil_append, Lib.parseUintM]
    rw [if_pos (by omega), if_neg (by omega), if_neg (by omega)]
    congr 1
    omega
  | b :: l, acc, m, h, hm, hM' => by
    simp only [List.cons_append, Lib.parseUintM] at h ⊢
    split at h
    · rename_i h1
      rw [if_pos h1]
      split at h
      · cases h
      · rename_i h2
        rw [if_neg h2]
        split at h
        · cases h
        · rename_i h3
          rw [if_neg h3]
          exact pM_snoc M c d hc hd l _ _ h hm hM'
    · cases h
theorem pM_dec (M : Nat) (hM : M ≤ 18446744073709551615) (n : Nat) (hn : n ≤ M) : Lib.parseUintM M 0 (Lib.decDigits n) = .ok n := by
  induction n using Nat.strongRecOn with
  | _ n ih =>
    by_cases h : n < 10
    · rw [Lib.decDigits_one h]
      have := pM_snoc M (UInt8.ofNat (48 + n)) n (u8_of h) h [] 0 0 rfl (by omega) (by omega)
      simpa using this
    · rw [Lib.decDigits, dif_neg h]
      have := pM_snoc M (UInt8.ofNat (48 + n % 10)) (n % 10) (u8_of (by omega)) (by omega) _ 0 (n / 10) (ih (n / 10) (by omega) (by omega)) (by omega) (by omega)
      rw [this]
      congr 1
      omega
theorem dec_digit (n : Nat) : ∀ c ∈ Lib.decDigits n, 48 ≤ c.toNat ∧ c.toNat ≤ 57 := by
  induction n using Nat.strongRecOn with
  | _ n ih =>
    intro c hc
    by_cases h : n < 10
    · rw [Lib.decDigits_one h, List.mem_singleton] at hc
      subst hc
      rw [u8_of h]; omega
    · rw [Lib.decDigits, dif_neg h, List.mem_append, List.mem_singleton] at hc
      rcases hc with hc | rfl
      · exact ih (n / 10) (by omega) c hc
      · rw [u8_of (by omega)]; omega
theorem dec_ne (n : Nat) : Lib.decDigits n ≠ [] := by
  intro h
  have := Lib.decDigits_length n
  rw [h] at this
  have := Lib.nDigits_pos n
  simp at *
  omega
theorem dec_cons (n : Nat) : ∃ c r, Lib.decDigits n = c :: r ∧ 48 ≤ c.toNat ∧ c.toNat ≤ 57 := by
  cases h : Lib.decDigits n with
  | nil => exact absurd h (dec_ne n)
  | cons c r => exact ⟨c, r, rfl, dec_digit n c (by rw [h]; exact List.mem_cons_self)⟩
theorem pB_dec (B n : Nat) (hB : 2 ^ B - 1 ≤ 18446744073709551615) (hn : n ≤ 2 ^ B - 1) : Lib.parseUintB B (Lib.decDigits n) = .ok n := by
  rw [Lib.parseUintB, if_neg (dec_ne n), pM_dec _ hB n hn]
theorem pI_itoa (n : Int) (h0 : -131072 ≤ n) (h1 : n < 131072) : Lib.parseIntB 32 (Lib.itoa n) = .ok n := by
  unfold Lib.itoa
  split
  · have e := pB_dec 32 n.natAbs (by decide) (by have : (2 : Nat) ^ 32 = 4294967296 := by decide
                                                 omega)
    have e0 : (45 : UInt8).toNat = 45 := rfl
    simp only [Lib.parseIntB, e0]
    rw [if_pos (.inr trivial), e]
    simp only [not_true_eq_false, false_and, if_false, true_and, if_true]
    rw [if_neg (by have : (2 : Nat) ^ (32 - 1) = 2147483648 := by decide
                   omega)]
    congr 1
    omega
  · have e := pB_dec 32 n.toNat (by decide) (by have : (2 : Nat) ^ 32 = 4294967296 := by decide
                                                omega)
    obtain ⟨c, r, hc, c0, c1⟩ := dec_cons n.toNat
    rw [hc] at e ⊢
    simp only [Lib.parseIntB]
    rw [if_neg (by omega), e]
    have g : ¬ c.toNat = 45 := by omega
    simp only [g, not_false_eq_true, true_and, false_and, if_false]
    rw [if_neg (by have : (2 : Nat) ^ (32 - 1) = 2147483648 := by decide
                   omega)]
    congr 1
    omega
theorem pI_dec (n : Nat) (h1 : n < 131072) : Lib.parseIntB 32 (Lib.decDigits n) = .ok (n : Int) := by
  have := pI_itoa (n : Int) (by omega) (by omega)
  rwa [Lib.itoa, if_neg (by omega), Int.toNat_natCast] at this
theorem pA_dec (n : Nat) (h1 : n < 131072) : Lib.atoiAll (Lib.decDigits n) = .ok (n : Int) := by
  have e : Lib.parseMag (Lib.decDigits n) = .ok n := by
    rw [Lib.parseMag, if_neg (dec_ne n), ← Lib.parseUintM_64, pM_dec _ (by decide) n (by omega)]
  obtain ⟨c, r, hc, c0, c1⟩ := dec_cons n
  rw [hc] at e ⊢
  simp only [Lib.atoiAll]
  rw [if_neg (by omega), e]
  have g : ¬ c.toNat = 45 := by omega
  simp only [g, not_false_eq_true, true_and, false_and, if_false]
  rw [if_neg (by omega)]
/-! ### Fields joined and split -/
theorem index_at (x y : List UInt8) (c : UInt8) (h : c ∉ x) : Lib.index (x ++ c :: y) [c] = (x.length : Int) := by
  induction x with
  | nil => rw [List.nil_append, Lib.index]; simp [List.isPrefixOf]
  | cons b l ih =>
    have h1 : b ≠ c := fun e => h (by rw [e]; exact List.mem_cons_self)
    have ih := ih (fun g => h (List.mem_cons_of_mem _ g))
    have hp : ([c] : List UInt8).isPrefixOf (b :: (l ++ c :: y)) = false := by simp [List.isPrefixOf, Ne.symm h1]
    rw [List.cons_append, Lib.index, hp, ih]
    rw [if_neg (by simp), if_neg (fun e => by have := beq_iff_eq.1 e; omega), List.length_cons]
    omega
theorem index_no (x : List UInt8) (c : UInt8) (h : c ∉ x) : Lib.index x [c] = -1 := by
  induction x with
  | nil => simp [Lib.index]
  | cons b l ih =>
    have h1 : b ≠ c := fun e => h (by rw [e]; exact List.mem_cons_self)
    have ih := ih (fun g => h (List.mem_cons_of_mem _ g))
    have hp : ([c] : List UInt8).isPrefixOf (b :: l) = false := by simp [List.isPrefixOf, Ne.symm h1]
    rw [Lib.index, hp, ih]
    simp
theorem join_cons (x y : List UInt8) (r : List (List UInt8)) (s : List UInt8) : Lib.join (x :: y :: r) s = x ++ (s ++ Lib.join (y :: r) s) := by
  simp [Lib.join, List.intercalate]
theorem split_join (c : UInt8) : ∀ (r : List (List UInt8)) (x : List UInt8), (∀ z ∈ x :: r, c ∉ z) → (Lib.join (x :: r) [c]).count c = r.length ∧ Lib.splitK [c] 0 r.length (Lib.join (x :: r) [c]) = x :: r
  | [], x, h => by
    have hx := h x List.mem_cons_self
    have e : Lib.join [x] [c] = x := by simp [Lib.join, List.intercalate]
    rw [e]
    exact ⟨List.count_eq_zero.2 hx, rfl⟩
  | y :: r, x, h => by
    have hx := h x List.mem_cons_self
    obtain ⟨i1, i2⟩ := split_join c r y (fun z hz => h z (List.mem_cons_of_mem _ hz))
    rw [join_cons, List.singleton_append]
    refine ⟨?_, ?_⟩
    · rw [List.count_append, List.count_eq_zero.2 hx, List.count_cons_self, i1, List.length_cons]
      omega
    · rw [List.length_cons, Lib.splitK, index_at _ _ _ hx]
      rw [if_neg (fun e => by have := beq_iff_eq.1 e; omega), Int.toNat_natCast, List.length_singleton, Nat.add_zero, List.take_left']
      · rw [show x ++ c :: Lib.join (y :: r) [c] = (x ++ [c]) ++ Lib.join (y :: r) [c] by simp]
        rw [List.drop_left' (by simp), i2]
      · rfl
/-- A box that holds a slice of strings, what is left of a row. -/
def LBox (W : World) (lb g : Nat) (xs : List ByteArray) : Prop :=
  g ≠ lb ∧ g < W.heap.size ∧ ∃ o cap, Boxed W lb 62 (.slice (some ⟨g, o, none⟩) xs.length cap) ∧ xs.length ≤ cap ∧ ∀ (j : Nat) x, xs[j]? = some x → W.cell? ⟨g, o + j, none⟩ = some (.string x)
theorem LBox.kept {W W' : World} {lb g : Nat} {xs : List ByteArray} {row : Option Nat} (h : LBox W lb g xs) (hg : W.grownBy W' row) (h1 : some lb ≠ row) (h2 : some g ≠ row) : LBox W' lb g xs := by
  obtain ⟨ha, hb, o, cap, hc, hd, he⟩ := h
  exact ⟨ha, Nat.lt_of_lt_of_le hb hg.size, o, cap, hc.kept hg h1, hd, fun j x hj => hg.cell (he j x hj) h2⟩
theorem grown_refl (W : World) (row : Option Nat) : W.grownBy W row := ⟨rfl, rfl, rfl, Nat.le_refl _, fun _ _ _ => rfl⟩
set_option maxRecDepth 100000 in
theorem pop_at (lb g : Nat) (xs : List ByteArray) (w : World) (h : LBox w lb g xs) :
    Calls Tryz.prog 59 #[.pointer (some ⟨lb, 0, none⟩)] w fun e w' => e = .returned (.string (xs.headD .empty)) ∧ LBox w' lb g xs.tail ∧ w.grownBy w' (some lb) := by
  obtain ⟨ha, hb, o, cap, hc, hd, he⟩ := h
  have c1 := hc.cell
  have f1 := hc.frozen
  cases xs with
  | nil =>
    simp only [List.length_nil, List.tail_nil, List.headD_nil] at *
    go_enter Tryz.func59, Tryz.ntmps59
    go_wp2
    go_ret
    exact ⟨rfl, ⟨ha, hb, o, cap, hc, hd, he⟩, grown_refl _ _⟩
  | cons x xs =>
    have c2 : w.cell? ⟨g, o, none⟩ = some (.string x) := he 0 x rfl
    simp only [List.length_cons, List.tail_cons, List.headD_cons] at *
    obtain ⟨n, hn⟩ : ∃ n, xs.length = n := ⟨_, rfl⟩
    rw [hn] at c1 hd
    have n1 : ¬ ((n : Int) + 1 = 0) := by omega
    have n2 : (1 : Int) ≤ (n : Int) + 1 := by omega
    have HE := Lib.hid he
    have HC := Lib.hid hc
    clear he hc
    have K : ∀ v o' cap', v = Value.slice (some ⟨g, o', none⟩) n cap' → n ≤ cap' → (0 < n → o' = o + 1) → LBox (w.setCell ⟨lb, 0, none⟩ v) lb g xs := by
      rintro v o' cap' rfl h1 h2
      refine ⟨ha, by simpa [World.setCell] using hb, o', cap', by rw [hn]; exact HC.out.set _, by omega, fun j y hj => ?_⟩
      have hj' := (List.getElem?_eq_some_iff.1 hj).1
      have := HE.out (j + 1) y hj
      rw [show o + (j + 1) = o' + j by have := h2 (by omega); omega] at this
      exact (grownBy_setCell' w lb _).cell this (by simp; exact ha)
    by_cases hcap : cap = 1
    · subst hcap
      obtain rfl : n = 0 := by omega
      go_enter Tryz.func59, Tryz.ntmps59
      go_wp2
      go_ret
      exact ⟨rfl, K _ o 0 rfl (by omega) (by omega), grownBy_setCell' _ _ _⟩
    · go_enter Tryz.func59, Tryz.ntmps59
      go_wp2
      go_ret
      exact ⟨rfl, K _ (o + 1) (cap - 1) rfl (by omega) (fun _ => rfl), grownBy_setCell' _ _ _⟩
/-- What lies there from the start and stays: the tables, the library's variables. -/
structure Env (W : World) : Prop where
  tabs : Tabs W
  names : Names W
  pw : Pw W
  es : ∃ ev, W.cell? ⟨7, 0, none⟩ = some ev ∧ (ev = .nilIface ∨ ∃ te pe, ev = .iface te pe)
  er : ∃ ev, W.cell? ⟨8, 0, none⟩ = some ev ∧ (ev = .nilIface ∨ ∃ te pe, ev = .iface te pe)
  ml : ∃ m, W.cell? ⟨4, 0, none⟩ = some (.int .i64 m)
  size : 11 ≤ W.heap.size
theorem pw_at : Tryz.prog.globalNamed "internal/strconv.uint64pow10" = some 3 := by kernel_rfl
theorem Pw.below {W W' : World} {B : Nat} (h : Pw W) (hb : Below B W W') (hB : 11 ≤ B) : Pw W' := by
  unfold Pw Lib.TabIs World.var? at h ⊢
  rw [pw_at] at h ⊢
  simp only [Option.bind_some] at h ⊢
  rw [hb.block 3 (by omega)]
  exact h
theorem Env.below {W W' : World} {B : Nat} (h : Env W) (hb : Below B W W') (hB : 11 ≤ B) : Env W' := by
  obtain ⟨e1, h1, h1'⟩ := h.es
  obtain ⟨e2, h2, h2'⟩ := h.er
  obtain ⟨m, h3⟩ := h.ml
  exact ⟨h.tabs.below hb (by omega), h.names.below hb (by omega), h.pw.below hb hB, ⟨e1, (hb.cell (p := ⟨7, 0, none⟩) (by show 7 < B; omega)).trans h1, h1'⟩,
    ⟨e2, (hb.cell (p := ⟨8, 0, none⟩) (by show 8 < B; omega)).trans h2, h2'⟩, ⟨m, (hb.cell (p := ⟨4, 0, none⟩) (by show 4 < B; omega)).trans h3⟩, Nat.le_trans h.size hb.size⟩
theorem Env.later {W W' : World} (h : Env W) (hb : Below W.heap.size W W') : Env W' := h.below hb h.size
theorem below_of_grown {B : Nat} {W W' : World} {row : Option Nat} (hg : W.grownBy W' row) (hB : B ≤ W.heap.size) (hr : ∀ k, row = some k → B ≤ k) : Below B W W' := (Below.refl B W).grown hg hB hr
theorem Env.grown {W W' : World} {row : Option Nat} (h : Env W) (hg : W.grownBy W' row) (hr : ∀ k, row = some k → 11 ≤ k) : Env W' := h.below (below_of_grown hg h.size hr) (Nat.le_refl _)
theorem grown_of_below {W W' : World} (h : Below W.heap.size W W') : W.grownBy W' none := ⟨h.os, h.tape, h.output, h.size, fun k hk _ => h.block k hk⟩
theorem grown_then {W W1 W2 : World} {row : Option Nat} (hg : W.grownBy W1 row) (hb : Below W1.heap.size W1 W2) : W.grownBy W2 row :=
  ⟨hb.os.trans hg.os, hb.tape.trans hg.tape, hb.output.trans hg.output, Nat.le_trans hg.size hb.size, fun k hk hne => (hb.block k (Nat.lt_of_lt_of_le hk hg.size)).trans (hg.block k hk hne)⟩
theorem below_bytes {w w' : World} {t : TypeId} (h : w' = w ∨ ∃ s, w' = Lib.bytesWorld w t s) : Below w.heap.size w w' := by
  rcases h with rfl | ⟨s, rfl⟩
  · exact Below.refl _ _
  · exact Lib.bytesWorld_below _ _ _
/-- The number that strconv.Atoi hands back, beside whatever error. -/
def atoiV (l : List UInt8) : Int := match Lib.atoiAll l with | .ok v => v | .range => Lib.atoiSat l | _ => 0
/-- The number that strconv.ParseInt(s, 10, 32) hands back, beside whatever error. -/
def numV (l : List UInt8) : Int := match Lib.parseIntB 32 l with | .ok v => v | .range => Lib.intSat 32 l | _ => 0
theorem atoi_any (s : ByteArray) (hlim : s.size ≤ 281474976710656) (W : World) (hE : Env W) :
    Calls Tryz.prog 61 #[.string s] W fun e w' => (∃ er, e = .returned (.tuple #[.int .i64 (atoiV s.data.toList), er])) ∧ Below W.heap.size W w' := by
  obtain ⟨e1, h1, h1'⟩ := hE.es
  obtain ⟨e2, h2, h2'⟩ := hE.er
  unfold atoiV
  cases h : Lib.atoiAll s.data.toList with
  | ok v => exact (Tryz.strconv_Atoi_ok s (by omega) v h W).mono fun e w' ⟨a, b⟩ => ⟨⟨_, a⟩, below_bytes b⟩
  | range => exact (Tryz.strconv_Atoi_range s hlim h e2 W h2 h2').mono fun e w' ⟨_, a, _, _, b⟩ => ⟨⟨_, a⟩, b⟩
  | _ => exact (Tryz.strconv_Atoi_syntax s hlim h e1 W h1 h1').mono fun e w' ⟨_, a, _, _, b⟩ => ⟨⟨_, a⟩, b⟩
theorem num_any (s : ByteArray) (hlim : s.size ≤ 281474976710656) (W : World) (hE : Env W) :
    Calls Tryz.prog 63 #[.string s, .int .i64 10, .int .i64 32] W fun e w' => (∃ er, e = .returned (.tuple #[.int .i64 (numV s.data.toList), er])) ∧ Below W.heap.size W w' := by
  obtain ⟨e1, h1, h1'⟩ := hE.es
  obtain ⟨e2, h2, h2'⟩ := hE.er
  unfold numV
  cases h : Lib.parseIntB 32 s.data.toList with
  | ok v => exact (Tryz.strconv_ParseInt_10_at32_ok s (by omega) v h W).mono fun e w' ⟨a, b⟩ => ⟨⟨_, a⟩, below_bytes b⟩
  | range => exact (Tryz.strconv_ParseInt_10_at32_range s hlim h e2 W h2 h2').mono fun e w' ⟨_, a, _, _, b⟩ => ⟨⟨_, a⟩, b⟩
  | _ => exact (Tryz.strconv_ParseInt_10_at32_syntax s hlim h e1 W h1 h1').mono fun e w' ⟨_, a, _, _, b⟩ => ⟨⟨_, a⟩, b⟩
theorem trim_le (l p : List UInt8) : (Lib.trimPrefix l p).length ≤ l.length := by
  unfold Lib.trimPrefix
  split
  · rw [List.length_drop]; omega
  · exact Nat.le_refl _
theorem trim_size (x : ByteArray) (p : List UInt8) : (⟨(Lib.trimPrefix x.data.toList p).toArray⟩ : ByteArray).size ≤ x.size := by
  have := trim_le x.data.toList p
  rw [Lib.size_eq, Lib.size_eq]
  exact this
/-- The closure 'word' in its box. -/
def wordF (lb : Nat) : Value := .func (.func 59) #[] #[.pointer (some ⟨lb, 0, none⟩)]
def regV (x : ByteArray) : Int := atoiV (Lib.trimPrefix x.data.toList [114])
def immV (x : ByteArray) : Int := numV x.data.toList
def csrV (x : ByteArray) : Int := numV (Lib.trimPrefix x.data.toList [99])
theorem numV_lt (l : List UInt8) : -2147483648 ≤ numV l ∧ numV l < 2147483648 := by
  have e1 : ((2 : Nat) ^ (32 - 1)) = 2147483648 := by decide
  unfold numV
  cases h : Lib.parseIntB 32 l with
  | range =>
    simp only [Lib.intSat, e1]
    split <;> simp
  | ok v =>
    simp only
    cases l with
    | nil => simp [Lib.parseIntB] at h
    | cons c r =>
      simp only [Lib.parseIntB, e1] at h
      split at h
      · cases h
      · cases h
      · rename_i u _
        split at h
        · cases h
        · split at h
          · cases h
          · injection h with h
            split at h <;> omega
  | _ => simp
set_option maxRecDepth 100000 in
theorem reg_at (wb lb g : Nat) (xs : List ByteArray) (W : World) (hE : Env W) (hL : LBox W lb g xs) (hW : Boxed W wb 55 (wordF lb)) (hlb : 11 ≤ lb) (hx : (xs.headD .empty).size ≤ 281474976710656) :
    Calls Tryz.prog 60 #[.pointer (some ⟨wb, 0, none⟩)] W fun e w' => e = .returned (.int .i64 (regV (xs.headD .empty))) ∧ LBox w' lb g xs.tail ∧ W.grownBy w' (some lb) := by
  have cw := hW.cell
  unfold wordF at cw
  have P := Lib.hid (pop_at lb g xs W hL)
  have E := Lib.hid hE
  unfold regV
  obtain ⟨x, hxd⟩ : ∃ x, xs.headD .empty = x := ⟨_, rfl⟩
  rw [hxd] at hx P ⊢
  clear hL hE hxd hW
  go_enter Tryz.func60, Tryz.ntmps60
  go_wp2_with fail
  refine P.out.mono ?_
  rintro e w1 ⟨rfl, hL1, hG1⟩
  have E1 := E.out.grown hG1 (fun k e => by cases e; exact hlb)
  have T := Tryz.strings_TrimPrefix x ⟨#[114]⟩ w1
  go_wp2_with fail
  refine T.mono ?_
  rintro e w2 ⟨rfl, rfl⟩
  have A := atoi_any ⟨(Lib.trimPrefix x.data.toList [114]).toArray⟩ (Nat.le_trans (trim_size x [114]) hx) _ E1
  go_wp2_with fail
  refine A.mono ?_
  rintro e w2 ⟨⟨er, rfl⟩, hb⟩
  clear cw P E E1 T A
  go_wp2
  go_ret
  exact ⟨rfl, hL1.kept (grown_of_below hb) (by simp) (by simp), grown_then hG1 hb⟩
set_option maxRecDepth 100000 in
theorem number_at (wb lb g : Nat) (xs : List ByteArray) (W : World) (hE : Env W) (hL : LBox W lb g xs) (hW : Boxed W wb 55 (wordF lb)) (hlb : 11 ≤ lb) (hx : (xs.headD .empty).size ≤ 281474976710656) :
    Calls Tryz.prog 62 #[.pointer (some ⟨wb, 0, none⟩)] W fun e w' => e = .returned (.int .i32 (immV (xs.headD .empty))) ∧ LBox w' lb g xs.tail ∧ W.grownBy w' (some lb) := by
  have cw := hW.cell
  unfold wordF at cw
  have P := Lib.hid (pop_at lb g xs W hL)
  have E := Lib.hid hE
  unfold immV
  obtain ⟨x, hxd⟩ : ∃ x, xs.headD .empty = x := ⟨_, rfl⟩
  rw [hxd] at hx P ⊢
  clear hL hE hxd hW
  go_enter Tryz.func62, Tryz.ntmps62
  go_wp2_with fail
  refine P.out.mono ?_
  rintro e w1 ⟨rfl, hL1, hG1⟩
  have E1 := E.out.grown hG1 (fun k e => by cases e; exact hlb)
  have A := num_any x hx w1 E1
  have hv : IntKind.i32.wrap (numV x.data.toList) = numV x.data.toList := by
    have := numV_lt x.data.toList
    rw [IntKind.wrap_i32]
    omega
  go_wp2_with fail
  refine A.mono ?_
  rintro e w2 ⟨⟨er, rfl⟩, hb⟩
  clear cw P E E1 A
  go_wp2
  go_ret
  exact ⟨rfl, hL1.kept (grown_of_below hb) (by simp) (by simp), grown_then hG1 hb⟩
set_option maxRecDepth 100000 in
theorem csr_at (wb lb g : Nat) (xs : List ByteArray) (W : World) (hE : Env W) (hL : LBox W lb g xs) (hW : Boxed W wb 55 (wordF lb)) (hlb : 11 ≤ lb) (hx : (xs.headD .empty).size ≤ 281474976710656) :
    Calls Tryz.prog 64 #[.pointer (some ⟨wb, 0, none⟩)] W fun e w' => e = .returned (.int .i32 (csrV (xs.headD .empty))) ∧ LBox w' lb g xs.tail ∧ W.grownBy w' (some lb) := by
  have cw := hW.cell
  unfold wordF at cw
  have P := Lib.hid (pop_at lb g xs W hL)
  have E := Lib.hid hE
  unfold csrV
  obtain ⟨x, hxd⟩ : ∃ x, xs.headD .empty = x := ⟨_, rfl⟩
  rw [hxd] at hx P ⊢
  clear hL hE hxd hW
  go_enter Tryz.func64, Tryz.ntmps64
  go_wp2_with fail
  refine P.out.mono ?_
  rintro e w1 ⟨rfl, hL1, hG1⟩
  have E1 := E.out.grown hG1 (fun k e => by cases e; exact hlb)
  have T := Tryz.strings_TrimPrefix x ⟨#[99]⟩ w1
  go_wp2_with fail
  refine T.mono ?_
  rintro e w2 ⟨rfl, rfl⟩
  have A := num_any ⟨(Lib.trimPrefix x.data.toList [99]).toArray⟩ (Nat.le_trans (trim_size x [99]) hx) _ E1
  have hv : IntKind.i32.wrap (numV (Lib.trimPrefix x.data.toList [99])) = numV (Lib.trimPrefix x.data.toList [99]) := by
    have := numV_lt (Lib.trimPrefix x.data.toList [99])
    rw [IntKind.wrap_i32]
    omega
  go_wp2_with fail
  refine A.mono ?_
  rintro e w2 ⟨⟨er, rfl⟩, hb⟩
  clear cw P E E1 T A
  go_wp2
  go_ret
  exact ⟨rfl, hL1.kept (grown_of_below hb) (by simp) (by simp), grown_then hG1 hb⟩
/-- The mnemonics as values. -/
def nmv : List Value := nml.map fun l => .string ⟨l.toArray⟩
theorem index_names (w : World) : ∀ k : Nat, k < 26 → (Instr.index 61 (.agg nmv.toArray) (.int .i64 (k : Int))).run Tryz.prog w = .ok (.string (nm (k : Int))) w
  | 0, _ => by kernel_rfl
  | 1, _ => by kernel_rfl
  | 2, _ => by kernel_rfl
  | 3, _ => by kernel_rfl
  | 4, _ => by kernel_rfl
  | 5, _ => by kernel_rfl
  | 6, _ => by kernel_rfl
  | 7, _ => by kernel_rfl
  | 8, _ => by kernel_rfl
  | 9, _ => by kernel_rfl
  | 10, _ => by kernel_rfl
  | 11, _ => by kernel_rfl
  | 12, _ => by kernel_rfl
  | 13, _ => by kernel_rfl
  | 14, _ => by kernel_rfl
  | 15, _ => by kernel_rfl
  | 16, _ => by kernel_rfl
  | 17, _ => by kernel_rfl
  | 18, _ => by kernel_rfl
  | 19, _ => by kernel_rfl
  | 20, _ => by kernel_rfl
  | 21, _ => by kernel_rfl
  | 22, _ => by kernel_rfl
  | 23, _ => by kernel_rfl
  | 24, _ => by kernel_rfl
  | 25, _ => by kernel_rfl
  | n + 26, h => absurd h (by omega)
theorem info56 : (Tryz.prog.info? 61).map (·.size) = some nmv.length := by kernel_rfl
theorem Names.range {W : World} (h : Names W) : W.rangeAt 0 0 nmv := by
  intro j v hj
  have hl : j < 26 := by
    have := (List.getElem?_eq_some_iff.1 hj).1
    simpa [nmv, nml] using this
  rw [Nat.zero_add, h.names j hl]
  unfold nmv at hj
  rw [List.getElem?_map] at hj
  rw [List.getD]
  cases e : nml[j]? with
  | none => rw [e] at hj; cases hj
  | some l => rw [e] at hj; simpa using hj
/-- The opcode of a mnemonic among the first k. -/
def opTo (n : ByteArray) : Nat → Nat
  | 0 => 0
  | k + 1 => if nm (k : Int) = n ∧ nm (k : Int) ≠ .empty then k else opTo n k
theorem opTo_lt (n : ByteArray) : ∀ k, opTo n k = 0 ∨ opTo n k < k
  | 0 => .inl rfl
  | k + 1 => by
    unfold opTo
    split
    · right; omega
    · rcases opTo_lt n k with h | h
      · exact .inl h
      · right; omega
/-- The fields of a text. -/
def pieces (s : ByteArray) : List ByteArray := Lib.splitB ⟨#[32]⟩ 0 (Lib.countB s ⟨#[32]⟩) s
theorem pieces_len (s : ByteArray) : (pieces s).length = Lib.countB s ⟨#[32]⟩ + 1 := Lib.splitB_all _ (by decide) 0 _ s rfl
theorem splitB_size (sep : ByteArray) : ∀ (k : Nat) (s : ByteArray), ∀ x ∈ Lib.splitB sep 0 k s, x.size ≤ s.size
  | 0, s, x, hx => by
    rw [Lib.splitB_zero, List.mem_singleton] at hx
    subst hx
    exact Nat.le_refl _
  | k + 1, s, x, hx => by
    unfold Lib.splitB at hx
    split at hx
    · rw [List.mem_singleton] at hx
      subst hx
      exact Nat.le_refl _
    · rcases List.mem_cons.1 hx with rfl | hx
      · rw [ByteArray.size_extract]; omega
      · have := splitB_size sep k _ x hx
        rw [ByteArray.size_extract] at this
        omega
theorem pieces_size (s : ByteArray) (n : Nat) (hn : s.size ≤ n) : ∀ x ∈ pieces s, x.size ≤ n := fun x hx => Nat.le_trans (splitB_size _ _ s x hx) hn
/-- A block that holds an instruction. -/
def IBox (W : World) (b : Nat) (i : In) : Prop := W.heap[b]? = some (.cells #[.int .i64 i.op, .int .i64 i.rd, .int .i64 i.ra, .int .i64 i.rb, .int .i32 i.imm] 27 (0, 0))
theorem IBox.lt {W : World} {b : Nat} {i : In} (h : IBox W b i) : b < W.heap.size := (Array.getElem?_eq_some_iff.1 h).1
theorem IBox.cell {W : World} {b : Nat} {i : In} (h : IBox W b i) (j : Nat) : W.cell? ⟨b, j, none⟩ = (#[.int .i64 i.op, .int .i64 i.rd, .int .i64 i.ra, .int .i64 i.rb, .int .i32 i.imm] : Array Value)[j]? := by
  simp [World.cell?, show W.heap[b]? = _ from h]
theorem IBox.frozen {W : World} {b : Nat} {i : In} (h : IBox W b i) (j : Nat) : W.frozen? ⟨b, j, none⟩ = false := by simp [World.frozen?, show W.heap[b]? = _ from h]
theorem IBox.kept {W W' : World} {row : Option Nat} {b : Nat} {i : In} (h : IBox W b i) (hg : W.grownBy W' row) (hne : some b ≠ row) : IBox W' b i := (hg.block b h.lt hne).trans h
theorem ibox_set {W : World} {b j : Nat} {i : In} (i' : In) (v : Value) (h : IBox W b i)
    (he : (#[.int .i64 i.op, .int .i64 i.rd, .int .i64 i.ra, .int .i64 i.rb, .int .i32 i.imm] : Array Value).setIfInBounds j v = #[.int .i64 i'.op, .int .i64 i'.rd, .int .i64 i'.ra, .int .i64 i'.rb, .int .i32 i'.imm]) : IBox (W.setCell ⟨b, j, none⟩ v) b i' := by
  obtain ⟨hlt, hk⟩ := Array.getElem?_eq_some_iff.1 h
  show (W.heap.modify b _)[b]? = _
  rw [Array.getElem?_eq_getElem (by rw [Array.size_modify]; exact hlt), Array.getElem_modify_self, hk]
  simp only [← he]
  rfl
theorem grown_set (W : World) (a : Addr) (v : Value) : W.grownBy (W.setCell a v) (some a.block) :=
  ⟨rfl, rfl, rfl, (KeepsWalks.setCell W _ v).size, fun k _ hk => Below.heap_setCell _ _ _ k (fun e => hk (by rw [e]))⟩
/-- The state of asm.read behind its first lines: the boxes, the fields that are left, the instruction so far. -/
structure RSt (W0 : World) (xs : List ByteArray) (i : In) (W : World) : Prop where
  below : Below W0.heap.size W0 W
  res : IBox W W0.heap.size nilI
  l : LBox W (W0.heap.size + 1 + 1) (W0.heap.size + 1) xs
  wd : Boxed W (W0.heap.size + 1 + 1 + 1) 55 (wordF (W0.heap.size + 1 + 1))
  ib : IBox W (W0.heap.size + 1 + 1 + 1 + 1) i
theorem some_ne {a b : Nat} (h : a ≠ b) : (some a : Option Nat) ≠ some b := fun e => h (Option.some.inj e)
theorem RSt.grown {W0 W W' : World} {xs ys : List ByteArray} {i : In} (h : RSt W0 xs i W) (hl : LBox W' (W0.heap.size + 1 + 1) (W0.heap.size + 1) ys) (hg : W.grownBy W' (some (W0.heap.size + 1 + 1))) : RSt W0 ys i W' :=
  ⟨h.below.grown hg (by have := h.below.size; omega) (fun k e => by cases e; omega), h.res.kept hg (some_ne (by omega)), hl, h.wd.kept hg (some_ne (by omega)), h.ib.kept hg (some_ne (by omega))⟩
theorem RSt.later {W0 W W' : World} {xs : List ByteArray} {i : In} (h : RSt W0 xs i W) (hb : Below W.heap.size W W') : RSt W0 xs i W' :=
  ⟨h.below.trans (hb.mono h.below.size), h.res.kept (grown_of_below hb) (by simp), h.l.kept (grown_of_below hb) (by simp) (by simp), h.wd.kept (grown_of_below hb) (by simp), h.ib.kept (grown_of_below hb) (by simp)⟩
theorem RSt.set {W0 W : World} {xs : List ByteArray} {i : In} (h : RSt W0 xs i W) (i' : In) (j : Nat) (v : Value)
    (he : (#[.int .i64 i.op, .int .i64 i.rd, .int .i64 i.ra, .int .i64 i.rb, .int .i32 i.imm] : Array Value).setIfInBounds j v = #[.int .i64 i'.op, .int .i64 i'.rd, .int .i64 i'.ra, .int .i64 i'.rb, .int .i32 i'.imm]) : RSt W0 xs i' (W.setCell ⟨W0.heap.size + 1 + 1 + 1 + 1, j, none⟩ v) := by
  have hg := grown_set W ⟨W0.heap.size + 1 + 1 + 1 + 1, j, none⟩ v
  exact ⟨h.below.grown hg (by have := h.below.size; omega) (fun k e => by cases e; exact Nat.le_trans (Nat.le_add_right _ 4) (Nat.le_refl _)), h.res.kept hg (some_ne (by show W0.heap.size ≠ W0.heap.size + 1 + 1 + 1 + 1; omega)), h.l.kept hg (by simp) (by simp), h.wd.kept hg (by simp), ibox_set i' v h.ib he⟩
theorem RSt.env {W0 W : World} {xs : List ByteArray} {i : In} (h : RSt W0 xs i W) (hE : Env W0) : Env W := hE.later h.below
/-- The instruction's zero. -/
def zeros : Array Value := #[.int .i64 0, .int .i64 0, .int .i64 0, .int .i64 0, .int .i32 0]
theorem rst_start (W : World) (s : ByteArray) :
    RSt W (pieces s) nilI (((((W.alloc (.cells zeros 27)).alloc (.cells ((pieces s).map Value.string).toArray 9)).alloc (.cells #[.slice (some ⟨W.heap.size + 1, 0, none⟩) (Lib.countB s ⟨#[32]⟩ + 1) (Lib.countB s ⟨#[32]⟩ + 1)] 62)).alloc (.cells #[wordF (W.heap.size + 1 + 1)] 55)).alloc (.cells zeros 27)) := by
  obtain ⟨W1, h1⟩ : ∃ W1, W.alloc (.cells zeros 27) = W1 := ⟨_, rfl⟩
  obtain ⟨W2, h2⟩ : ∃ W2, W1.alloc (.cells ((pieces s).map Value.string).toArray 9) = W2 := ⟨_, rfl⟩
  obtain ⟨W3, h3⟩ : ∃ W3, W2.alloc (.cells #[.slice (some ⟨W.heap.size + 1, 0, none⟩) (Lib.countB s ⟨#[32]⟩ + 1) (Lib.countB s ⟨#[32]⟩ + 1)] 62) = W3 := ⟨_, rfl⟩
  obtain ⟨W4, h4⟩ : ∃ W4, W3.alloc (.cells #[wordF (W.heap.size + 1 + 1)] 55) = W4 := ⟨_, rfl⟩
  have z1 : W1.heap.size = W.heap.size + 1 := by rw [← h1]; simp
  have z2 : W2.heap.size = W.heap.size + 1 + 1 := by rw [← h2]; simp [z1]
  have z3 : W3.heap.size = W.heap.size + 1 + 1 + 1 := by rw [← h3]; simp [z2]
  have z4 : W4.heap.size = W.heap.size + 1 + 1 + 1 + 1 := by rw [← h4]; simp [z3]
  have b1 : Below W.heap.size W W1 := by rw [← h1]; exact (Below.refl _ W).alloc (Nat.le_refl _) _
  have b2 : Below W1.heap.size W1 W2 := by rw [← h2]; exact (Below.refl _ W1).alloc (Nat.le_refl _) _
  have b3 : Below W2.heap.size W2 W3 := by rw [← h3]; exact (Below.refl _ W2).alloc (Nat.le_refl _) _
  have b4 : Below W3.heap.size W3 W4 := by rw [← h4]; exact (Below.refl _ W3).alloc (Nat.le_refl _) _
  have n1 : IBox W1 W.heap.size nilI := by rw [← h1]; exact World.alloc_heap_new W _
  have n3 : Boxed W3 (W.heap.size + 1 + 1) 62 (.slice (some ⟨W.heap.size + 1, 0, none⟩) (Lib.countB s ⟨#[32]⟩ + 1) (Lib.countB s ⟨#[32]⟩ + 1)) := by rw [← h3, ← z2]; exact Boxed.new _ _ _
  have n4 : Boxed W4 (W.heap.size + 1 + 1 + 1) 55 (wordF (W.heap.size + 1 + 1)) := by rw [← h4, ← z3]; exact Boxed.new _ _ _
  have n2 : ∀ (j : Nat) x, (pieces s)[j]? = some x → W2.cell? ⟨W.heap.size + 1, 0 + j, none⟩ = some (.string x) := by
    intro j x hj
    rw [← h2, ← z1, World.cell?_alloc_new, Nat.zero_add]
    simp [hj]
  rw [h1, h2, h3, h4]
  obtain ⟨W5, h5⟩ : ∃ W5, W4.alloc (.cells zeros 27) = W5 := ⟨_, rfl⟩
  have b5 : Below W4.heap.size W4 W5 := by rw [← h5]; exact (Below.refl _ W4).alloc (Nat.le_refl _) _
  have n5 : IBox W5 (W.heap.size + 1 + 1 + 1 + 1) nilI := by rw [← h5, ← z4]; exact World.alloc_heap_new W4 _
  rw [h5]
  have b25 : Below W2.heap.size W2 W5 := b3.trans ((b4.mono b3.size).trans (b5.mono (Nat.le_trans b3.size b4.size)))
  have b15 : Below W1.heap.size W1 W5 := b2.trans (b25.mono b2.size)
  refine ⟨b1.trans (b15.mono b1.size), n1.kept (grown_of_below b15) (by simp), ⟨by omega, by have := b25.size; omega, 0, Lib.countB s ⟨#[32]⟩ + 1, ?_, by rw [pieces_len]; exact Nat.le_refl _, fun j x hj => ?_⟩, n4.kept (grown_of_below b5) (by simp), n5⟩
  · rw [pieces_len]
    exact (n3.kept (grown_of_below b4) (by simp)).kept (grown_of_below b5) (by simp)
  · exact (b25.cell (p := ⟨W.heap.size + 1, 0 + j, none⟩) (by show W.heap.size + 1 < _; omega)).trans (n2 j x hj)
end Go.Proofs.YtihnglgknncgpaaGreatDoor.Asm
