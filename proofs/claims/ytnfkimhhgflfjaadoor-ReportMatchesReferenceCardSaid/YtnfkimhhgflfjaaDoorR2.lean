/- report.hex, walked, over a strings.Builder that the call itself has made. -/
import Derived.Test.YtnfkimhhgflfjaaDoorR1
import Derived.Shelf.Strings.BuilderF
import Derived.Lib.FrozenHead2
namespace Go.Proofs.YtnfkimhhgflfjaaDoor.Rep
open Go Go.RowKit
set_option linter.unusedVariables false
set_option linter.unusedSimpArgs false
/-! ### A strings.Builder that the call itself has made -/
theorem bsize : (Tryd.prog.info? 79).map (·.size) = some 2 := by kernel_rfl
theorem bytes_info : (Tryd.prog.info? 5).map (fun i => (i.zero, i.size, i.bytes)) = some (some (.int .u8 0), 1, 1) := by kernel_rfl
theorem blies : liesAt Tryd.prog Tryd.prog.depth 79 (2 / Tryd.prog.cellsOf 79) 0 79 1 = true := by kernel_rfl
set_option maxHeartbeats 1000000 in
set_option maxRecDepth 100000 in
theorem copy_used (b : Nat) (w : World) (h0 : w.cell? ⟨b, 0, none⟩ = some (.pointer (some ⟨b, 0, none⟩))) :
    Calls Tryd.prog 43 #[.pointer (some ⟨b, 0, none⟩)] w fun e w' => e = .returned (.tuple #[]) ∧ w' = w := by
  obtain ⟨j, hj, _⟩ := Option.map_eq_some_iff.1 bsize
  go_enter Tryd.func43, Tryd.ntmps43
  go_wp2
  rw [Lib.run_neq_ptr_same w _ Tryd.underlying77 hj]
  go_wp2
  go_end0
  exact ⟨rfl, rfl⟩
set_option maxHeartbeats 1000000 in
set_option maxRecDepth 100000 in
theorem copy_fresh (b : Nat) (w : World) (h0 : w.cell? ⟨b, 0, none⟩ = some (.pointer none)) (hsh : w.shape? b = some (79, 2)) (hfz : w.frozen? ⟨b, 0, none⟩ = false) :
    Calls Tryd.prog 43 #[.pointer (some ⟨b, 0, none⟩)] w fun e w' => e = .returned (.tuple #[]) ∧ w' = w.setCell ⟨b, 0, none⟩ (.pointer (some ⟨b, 0, none⟩)) := by
  obtain ⟨j, hj, hjs⟩ := Option.map_eq_some_iff.1 bsize
  go_enter Tryd.func43, Tryd.ntmps43
  go_wp2
  rw [Lib.run_to_unsafe w ⟨b, 0, none⟩ Tryd.underlying77 Tryd.underlying103 hj (by rw [hjs]; decide) hsh (Nat.zero_lt_succ 1)]
  simp only [Result.andThen]
  rw [Oper.upon_value]
  go_wp2
  rw [run_callFunc_extern Tryd.func55 (by kernel_rfl) (by kernel_rfl) (by kernel_rfl) (e := Extern.AbiNoEscape.same) (by kernel_rfl)]
  rw [Lib.run_noEscape]
  simp only [Result.andThen]
  rw [Oper.upon_value]
  go_wp2
  rw [Lib.run_from_unsafe w ⟨b, 0, none⟩ Tryd.underlying103 Tryd.underlying77 hj hsh blies]
  simp only [Result.andThen]
  rw [Oper.upon_value]
  go_wp2
  go_end0
  exact ⟨rfl, rfl⟩
theorem copy_at (B b : Nat) (bs : List Value) (w : World) (h : Lib.IsBuilderF 79 5 B b bs w) :
    Calls Tryd.prog 43 #[.pointer (some ⟨b, 0, none⟩)] w fun e w' => e = .returned (.tuple #[]) ∧ (Lib.BuilderAtF 79 5 B b (.pointer (some ⟨b, 0, none⟩)) bs w' ∧ Below B w w') := by
  rcases h with h | h
  · refine (copy_fresh b w h.cell0 h.shape h.frozen0).mono ?_
    rintro e w' ⟨rfl, rfl⟩
    exact ⟨rfl, h.used _, (Below.refl B w).setCell (p := ⟨b, 0, none⟩) h.1 _⟩
  · refine (copy_used b w h.cell0).mono ?_
    rintro e w' ⟨rfl, rfl⟩
    exact ⟨rfl, h, Below.refl B _⟩
set_option maxHeartbeats 2000000 in
set_option maxRecDepth 100000 in
theorem byte_at (B b : Nat) (bs : List Value) (c : UInt8) (w : World) (h : Lib.IsBuilderF 79 5 B b bs w) (hlen : bs.length ≤ 100000000) (hBw : B ≤ w.heap.size) :
    Calls Tryd.prog 37 #[.pointer (some ⟨b, 0, none⟩), .int .u8 (c.toNat : Int)] w fun e w' => e = .returned .nilIface ∧ (Lib.IsBuilderF 79 5 B b (bs ++ [.int .u8 (c.toNat : Int)]) w' ∧ Below B w w') := by
  obtain ⟨i0, hi, hz0, hz1, hz2⟩ := info_parts bytes_info
  go_enter Tryd.func37, Tryd.ntmps37
  go_wp2_with (go_at_call 43; refine (copy_at B b bs _ h).mono ?_)
  rintro e w1 ⟨rfl, h1, hb1⟩
  obtain ⟨hB, v, hbk, hown, hne⟩ := h1
  have hlt : b < w1.heap.size := by
    rcases Nat.lt_or_ge b w1.heap.size with h' | h'
    · exact h'
    · simp [Array.getElem?_eq_none h'] at hbk
  have c0 : w1.cell? ⟨b, 0, none⟩ = some (.pointer (some ⟨b, 0, none⟩)) := by rw [Lib.cell_of_heap hbk]; rfl
  have c1 : w1.cell? ⟨b, 1, none⟩ = some v := by rw [Lib.cell_of_heap hbk]; rfl
  have hz : B ≤ w1.heap.size := by have := hb1.size; omega
  go_wp2_with (at_builtin; refine wpList_append_ownF _ rfl _ _ 27 rfl B 5 i0 (.int .u8 0) 1 1 Tryd.underlying27 hi hz0 hz1 hz2 rfl (by decide) _ _ _ rfl (hown.alloc _) ⟨w1.heap.size, 0, none⟩ 1 1 [.int .u8 (c.toNat : Int)] rfl rfl ?c1 ?c2 ?c3 ?c4 ?c5 ?_)
  case c1 => exact cell_one_new w1 _ 5
  case c2 => intro u hu; simp at hu; subst hu; rfl
  case c3 => unfold maxLen; omega
  case c4 => omega
  case c5 => simp; omega
  intro v' w2 hown' hgrow _
  have hb2 : w2.heap[b]? = some (.cells #[.pointer (some ⟨b, 0, none⟩), v] 79 (0, 0)) := by rw [hgrow.block b (by simp; omega) (fun e => hne e.symm)]; exact (Below.heap_alloc _ _ _ hlt).trans hbk
  have d0 : w2.cell? ⟨b, 0, none⟩ = some (.pointer (some ⟨b, 0, none⟩)) := by rw [Lib.cell_of_heap hb2]; rfl
  have d1 : w2.cell? ⟨b, 1, none⟩ = some v := by rw [Lib.cell_of_heap hb2]; rfl
  have f1 : w2.frozen? ⟨b, 1, none⟩ = false := Lib.frozen_of_heap hb2 1
  obtain ⟨g, cap, rfl⟩ : ∃ g cap, v' = .slice (some ⟨g, 0, none⟩) (bs.length + 1) cap := by
    rcases hown'.2 with ⟨_, h0⟩ | ⟨g, cap, cur, fz, hv, _⟩
    · omega
    · exact ⟨g, cap, hv⟩
  go_wp2
  go_ret
  refine ⟨rfl, .inr ?_, ?_⟩
  · exact Lib.BuilderAtF.put (T := 79) (e := 5) hB hb2 (bs' := bs ++ [.int .u8 (c.toNat : Int)]) (by simpa using hown') (by decide)
  · exact ((hb1.alloc hz _).grown hgrow (by simp; omega) (fun k hk => (hown.lt k hk).1)).setCell (p := ⟨b, 1, none⟩) hB _
theorem builderAt_later {T e : TypeId} {B b : Nat} {p : Value} {bs : List Value} {w w' : World} (h : Lib.BuilderAtF T e B b p bs w) (hb : Below w.heap.size w w') : Lib.BuilderAtF T e B b p bs w' := by
  obtain ⟨hB, v, hbk, hown, hne⟩ := h
  have hlt : b < w.heap.size := by
    rcases Nat.lt_or_ge b w.heap.size with h' | h'
    · exact h'
    · simp [Array.getElem?_eq_none h'] at hbk
  exact ⟨hB, v, (hb.block b hlt).trans hbk, hown.kept (grown_of_below hb) (by cases v.ownBlock <;> simp), hne⟩
theorem builder_later {T e : TypeId} {B b : Nat} {bs : List Value} {w w' : World} (h : Lib.IsBuilderF T e B b bs w) (hb : Below w.heap.size w w') : Lib.IsBuilderF T e B b bs w' :=
  h.elim (fun x => .inl (builderAt_later x hb)) (fun x => .inr (builderAt_later x hb))
/-! ### report.hex -/
def hexd (d : Nat) : UInt8 := if d < 10 then UInt8.ofNat (48 + d) else UInt8.ofNat (87 + d)
def hexF : List UInt8 → List UInt8
  | [] => []
  | c :: l => hexd (c.toNat / 16) :: hexd (c.toNat % 16) :: hexF l
/-- Bytes in hexadecimal. -/
def hexS (l : List UInt8) : List UInt8 := if l = [] then [45] else hexF l
theorem hexF_append : ∀ (a b : List UInt8), hexF (a ++ b) = hexF a ++ hexF b
  | [], _ => rfl
  | c :: a, b => by simp [hexF, hexF_append a b]
theorem hexF_len : ∀ l : List UInt8, (hexF l).length = 2 * l.length
  | [] => rfl
  | c :: l => by simp [hexF, hexF_len l]; omega
theorem hx_index (w : World) : ∀ n : Nat, n < 16 → (Instr.index 9 (.string ⟨#[48, 49, 50, 51, 52, 53, 54, 55, 56, 57, 97, 98, 99, 100, 101, 102]⟩) (.int .u8 (n : Int))).run Tryd.prog w = .ok (.int .u8 ((hexd n).toNat : Int)) w
  | 0, _ => by kernel_rfl
  | 1, _ => by kernel_rfl
  | 2, _ => by kernel_rfl
  | 3, _ => by kernel_rfl
  | 4, _ => by kernel_rfl
  | 5, _ => by kernel_rfl
  | 6, _ => by kernel_rfl
  | 7, _ => by kernel_rfl
  | 8, _ => by kernel_rfl
  | 9, _ => by kernel_rfl
  | 10, _ => by kernel_rfl
  | 11, _ => by kernel_rfl
  | 12, _ => by kernel_rfl
  | 13, _ => by kernel_rfl
  | 14, _ => by kernel_rfl
  | 15, _ => by kernel_rfl
  | n + 16, h => absurd h (by omega)
/-- A slice of bytes lies there. -/
def Bytes (W : World) (p : Option Addr) (l : List UInt8) : Prop := ∀ (k : Nat) (x : UInt8), l[k]? = some x → ∃ a, p = some a ∧ (a.add k).block < W.heap.size ∧ W.cell? (a.add k) = some (.int .u8 (x.toNat : Int))
theorem Bytes.later {W W' : World} {p : Option Addr} {l : List UInt8} (h : Bytes W p l) (hb : Below W.heap.size W W') : Bytes W' p l := fun k x hk => by
  obtain ⟨a, h2, h3, h4⟩ := h k x hk
  exact ⟨a, h2, Nat.lt_of_lt_of_le h3 hb.size, (hb.cell (p := a.add k) h3).trans h4⟩
theorem bc_append (a b : List UInt8) : Lib.byteCells (a ++ b) = Lib.byteCells a ++ Lib.byteCells b := by simp [Lib.byteCells]
theorem bc_snoc (a : List UInt8) (c : UInt8) : Lib.byteCells a ++ [Value.int .u8 (c.toNat : Int)] = Lib.byteCells (a ++ [c]) := by simp [Lib.byteCells]
theorem hex_none (p : Option Addr) (c : Nat) (w : World) :
    Calls Tryd.prog 19 #[.slice p 0 c] w fun e w' => e = .returned (.string ⟨#[45]⟩) ∧ w' = w := by
  go_enter Tryd.func19, Tryd.ntmps19
  go_wp2
  go_ret
  exact ⟨rfl, rfl⟩
set_option maxRecDepth 100000 in
set_option maxHeartbeats 4000000 in
theorem hex_some (l : List UInt8) (hn : l.length ≤ 1000000) (h0 : 0 < l.length) (p : Option Addr) (c : Nat) (W : World) (hp : Bytes W p l) :
    Calls Tryd.prog 19 #[.slice p l.length c] W fun e w' => e = .returned (.string ⟨(hexF l).toArray⟩) ∧ Below W.heap.size W w' := by
  have P := Lib.hid hp
  clear hp
  have hB0 := Lib.hid (Lib.IsBuilderF.of (Lib.fresh_isBuilder 79 5 W))
  have q0 : ((l.length : Int) == 0) = false := by rw [beq_eq_false_iff_ne]; omega
  go_enter Tryd.func19, Tryd.ntmps19
  go_wp2_with fail
  go_loopw [11] (fun vi wr => ∃ k : Nat, k ≤ l.length ∧ vi = .int .i64 (k : Int) ∧ Lib.IsBuilderF 79 5 W.heap.size W.heap.size (Lib.byteCells (hexF (l.take k))) wr ∧ Below W.heap.size W wr) (fun vi _ => l.length - (intOf vi).toNat)
  case atStart => exact ⟨0, by omega, rfl, hB0.out, (Below.refl _ W).alloc (Nat.le_refl _) _⟩
  case round =>
    obtain ⟨k, hk, rfl, hb1, hb2⟩ := hrel
    have I1 := Lib.hid hb1
    have B1 := Lib.hid hb2
    clear hb1 hb2
    by_cases hkn : k < l.length
    · obtain ⟨x, hx⟩ : ∃ x, l[k]? = some x := ⟨l[k], List.getElem?_eq_getElem hkn⟩
      obtain ⟨b, rfl, hbl, hc⟩ := P.out k x hx
      have hc1 := (B1.out.cell (p := b.add k) hbl).trans hc
      have htk : Hid (hexF (l.take (k + 1)) = hexF (l.take k) ++ [hexd (x.toNat / 16)] ++ [hexd (x.toNat % 16)]) := Lib.hid (by rw [List.take_add_one, hx, Option.toList_some, hexF_append]; simp [hexF])
      have hl1 : Hid ((hexF (l.take k)).length ≤ 2000000) := Lib.hid (by rw [hexF_len, List.length_take]; omega)
      have hx256 : x.toNat < 256 := x.toNat_lt
      have i1 := fun w => hx_index w (x.toNat / 16) (by omega)
      have i2 := fun w => hx_index w (x.toNat % 16) (by omega)
      have e1 : ((x.toNat / 16 : Nat) : Int) = (x.toNat : Int) / 16 := by omega
      have e2 : ((x.toNat % 16 : Nat) : Int) = (x.toNat : Int) % 16 := by omega
      rw [e1] at i1
      rw [e2] at i2
      obtain ⟨D, hD⟩ : ∃ D, hexF (l.take k) = D := ⟨_, rfl⟩
      obtain ⟨y1, hy1⟩ : ∃ y1, hexd (x.toNat / 16) = y1 := ⟨_, rfl⟩
      obtain ⟨y2, hy2⟩ : ∃ y2, hexd (x.toNat % 16) = y2 := ⟨_, rfl⟩
      rw [hD] at htk hl1 I1
      rw [hy1] at i1 htk
      rw [hy2] at i2 htk
      have K1 := byte_at W.heap.size W.heap.size (Lib.byteCells D) y1 wr I1.out (by have := hl1.out; rw [Lib.byteCells_length]; omega) B1.out.size
      clear hc hD hx e1 e2 hy1 hy2
      have q1 : (k : Int) < (l.length : Int) := by omega
      have q2 : (0 : Int) ≤ (k : Int) := by omega
      go_wp2_with fail
      refine K1.mono ?_
      rintro e w3 ⟨rfl, hi3, hb3⟩
      have B3 := Lib.hid (B1.out.trans hb3)
      rw [bc_snoc] at hi3
      have I3 := Lib.hid hi3
      have K2 := byte_at W.heap.size W.heap.size (Lib.byteCells (D ++ [y1])) y2 w3 I3.out (by have := hl1.out; rw [Lib.byteCells_length, List.length_append, List.length_singleton]; omega) B3.out.size
      clear K1 hi3 hb3 hc1
      go_wp2_with fail
      refine K2.mono ?_
      rintro e w4 ⟨rfl, hi4, hb4⟩
      have B4 := Lib.hid (B3.out.trans hb4)
      rw [bc_snoc, ← htk.out] at hi4
      have I4 := Lib.hid hi4
      clear K2 hi4 hb4
      go_wp2
      go_roundw
      case rel => exact ⟨k + 1, by omega, by go_num, I4.out, B4.out⟩
      case measure => simp [intOf]; omega
    · obtain rfl : k = l.length := by omega
      have hl : l.take l.length = l := List.take_length
      rw [hl] at I1
      have K := Tryd.Builder_String_any_k W.heap.size W.heap.size (hexF l) wr I1.out B1.out.size
      clear hl I1
      go_wp2_with fail
      refine K.mono ?_
      rintro e w2 ⟨rfl, _, hb, _⟩
      have B2 := Lib.hid (B1.out.trans hb)
      clear K hb
      go_wp2
      go_ret
      exact ⟨rfl, B2.out⟩
/-- report.hex. -/
theorem hex_any (l : List UInt8) (hn : l.length ≤ 1000000) (p : Option Addr) (c : Nat) (W : World) (hp : Bytes W p l) :
    Calls Tryd.prog 19 #[.slice p l.length c] W fun e w' => e = .returned (.string ⟨(hexS l).toArray⟩) ∧ Below W.heap.size W w' := by
  unfold hexS
  by_cases h : l = []
  · subst h
    rw [if_pos rfl]
    refine (hex_none p c W).mono ?_
    rintro e w' ⟨rfl, rfl⟩
    exact ⟨rfl, Below.refl _ _⟩
  · rw [if_neg h]
    exact hex_some l hn (List.length_pos_iff.2 h) p c W hp
end Go.Proofs.YtnfkimhhgflfjaaDoor.Rep
