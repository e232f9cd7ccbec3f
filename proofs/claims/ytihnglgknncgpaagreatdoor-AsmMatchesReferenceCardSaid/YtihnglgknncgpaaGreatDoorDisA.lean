/- asm.line, walked. A strings.Builder that the call itself has made: copyCheck and WriteString, walked (after the shelf's proofs). asm.Disassemble, walked. gaolerref03.Words, walked. -/
import Derived.Test.YtihnglgknncgpaaGreatDoorPs1
import Derived.Test.YtihnglgknncgpaaGreatDoorRd4
import Derived.Shelf.Strings.BuilderF
namespace Go.Proofs.YtihnglgknncgpaaGreatDoor.Asm
open Go Go.RowKit Go.Proofs.YtihnglgknncgpaaGreatDoor.PAsmEveryWordHasOneLine Go.Proofs.YtihnglgknncgpaaGreatDoorW.PrintWords Go.Proofs.YtihnglgknncgpaaGreatDoorW.PrintLast Go.Proofs.YtihnglgknncgpaaGreatDoorW.PrintMore Go.Proofs.YtihnglgknncgpaaGreatDoor.Bm Go.Proofs.YtihnglgknncgpaaGreatDoor.Isa
set_option linter.unusedVariables false
set_option linter.unusedSimpArgs false
/-- A hexadecimal digit. -/
def hexd (d : Nat) : UInt8 := UInt8.ofNat (if d < 10 then 48 + d else 87 + d)
/-- The k lowest hexadecimal digits of w ahead of acc. -/
def hexN : Nat → Nat → List UInt8 → List UInt8
  | 0, _, acc => acc
  | k + 1, w, acc => hexN k (w / 16) (hexd (w % 16) :: acc)
/-- A word's line, without its end. -/
def lineL (w : Nat) : List UInt8 := if decOk w = true then (txt (decI w)).data.toList else [119, 111, 114, 100, 32] ++ hexN 8 w []
theorem hx_index (w : World) : ∀ d : Nat, d < 16 → (Instr.index 9 (.string ⟨#[48, 49, 50, 51, 52, 53, 54, 55, 56, 57, 97, 98, 99, 100, 101, 102]⟩) (.int .u32 (d : Int))).run Tryz.prog w = .ok (.int .u8 ((hexd d).toNat : Int)) w
  | 0, _ => by kernel_rfl
  | 1, _ => by kernel_rfl
  | 2, _ => by kernel_rfl
  | 3, _ => by kernel_rfl
  | 4, _ => by kernel_rfl
  | 5, _ => by kernel_rfl
  | 6, _ => by kernel_rfl
  | 7, _ => by kernel_rfl
  | 8, _ => by kernel_rfl
  | 9, _ => by kernel_rfl
  | 10, _ => by kernel_rfl
  | 11, _ => by kernel_rfl
  | 12, _ => by kernel_rfl
  | 13, _ => by kernel_rfl
  | 14, _ => by kernel_rfl
  | 15, _ => by kernel_rfl
  | n + 16, h => absurd h (by omega)
theorem hx_conv (w : World) : ∀ d : Nat, d < 16 → (convert 5 9 (.int .u8 ((hexd d).toNat : Int))).run Tryz.prog w = .ok (.string ⟨#[hexd d]⟩) w
  | 0, _ => by kernel_rfl
  | 1, _ => by kernel_rfl
  | 2, _ => by kernel_rfl
  | 3, _ => by kernel_rfl
  | 4, _ => by kernel_rfl
  | 5, _ => by kernel_rfl
  | 6, _ => by kernel_rfl
  | 7, _ => by kernel_rfl
  | 8, _ => by kernel_rfl
  | 9, _ => by kernel_rfl
  | 10, _ => by kernel_rfl
  | 11, _ => by kernel_rfl
  | 12, _ => by kernel_rfl
  | 13, _ => by kernel_rfl
  | 14, _ => by kernel_rfl
  | 15, _ => by kernel_rfl
  | n + 16, h => absurd h (by omega)
theorem cat_word (l : List UInt8) : (⟨#[119, 111, 114, 100, 32]⟩ : ByteArray) ++ (⟨l.toArray⟩ : ByteArray) = ⟨([119, 111, 114, 100, 32] ++ l).toArray⟩ := by
  apply ByteArray.ext
  show ((⟨#[119, 111, 114, 100, 32]⟩ : ByteArray) ++ (⟨l.toArray⟩ : ByteArray)).data = _
  rw [ByteArray.data_append]
  simp
set_option maxRecDepth 100000 in
set_option maxHeartbeats 4000000 in
theorem line_hex (w : Nat) (hw : w < 2 ^ 32) (W : World) (hE : Env W) (hd : decOk w = false) :
    Calls Tryz.prog 17 #[.int .u32 (w : Int)] W fun e w' => e = .returned (.string ⟨([119, 111, 114, 100, 32] ++ hexN 8 w []).toArray⟩) ∧ Below W.heap.size W w' := by
  have D := decode_any w W hE.tabs hw
  rw [show decR w = nilI from by unfold decR; rw [hd]; rfl, hd] at D
  clear hE hd
  simp only [nilI, In.v] at D
  go_enter Tryz.func17, Tryz.ntmps17
  go_wp2_with fail
  refine D.mono ?_
  rintro e w1 ⟨rfl, hb⟩
  have B1 := Lib.hid hb
  clear hb D
  go_wp2
  go_loopw [0, 7, 20] (fun vw vs vi wr => ∃ (k x : Nat) (acc : List UInt8), k ≤ 8 ∧ x < 2 ^ 32 ∧ vw = .int .u32 (x : Int) ∧ vs = .string ⟨acc.toArray⟩ ∧ vi = .int .i64 (k : Int) ∧ Hid (hexN (8 - k) x acc = hexN 8 w [] ∧ acc.length = k) ∧ Hid (Below W.heap.size W wr)) (fun _ _ vi _ => 8 - (intOf vi).toNat)
  case atStart => exact ⟨0, w, [], by omega, hw, rfl, rfl, rfl, Lib.hid ⟨rfl, rfl⟩, Lib.hid (B1.out.alloc B1.out.size _)⟩
  case round =>
    obtain ⟨k, x, acc, hk, hx, rfl, rfl, rfl, hh, hB⟩ := hrel
    by_cases hk8 : k < 8
    · have h1 := fun w => hx_index w (x % 16) (by omega)
      have h2 := fun w => hx_conv w (x % 16) (by omega)
      obtain ⟨c, hc⟩ : ∃ c, hexd (x % 16) = c := ⟨_, rfl⟩
      rw [hc] at h1 h2
      have e1 : ((x % 16 : Nat) : Int) = (x : Int) % 16 := by omega
      rw [e1] at h1
      clear e1
      have hh2 : Hid (hexN (8 - (k + 1)) (x / 16) (c :: acc) = hexN 8 w [] ∧ (c :: acc).length = k + 1) := Lib.hid ⟨by
        rw [← hh.out.1, show 8 - k = (8 - (k + 1)) + 1 by omega, hexN, hc], by rw [List.length_cons, hh.out.2]⟩
      have ha : ¬ 9223372036854775807 < 1 + acc.length := by have := hh.out.2; omega
      clear hc hh
      go_wp2
      go_roundw
      case rel => exact ⟨k + 1, x / 16, c :: acc, by omega, by omega, by go_num, by rw [cat_tag], by go_num, hh2, hB⟩
      case measure => simp [intOf]; omega
    · obtain rfl : k = 8 := by omega
      have ha : ¬ 9223372036854775807 < 5 + acc.length := by have := hh.out.2; omega
      have hacc : Hid (acc = hexN 8 w []) := Lib.hid hh.out.1
      clear hh
      go_wp2
      go_ret
      exact ⟨by rw [← hacc.out]; exact congrArg (fun s => Ending.returned (Value.string s)) (cat_word acc), hB.out⟩
set_option maxRecDepth 100000 in
set_option maxHeartbeats 4000000 in
theorem line_ok (w : Nat) (hw : w < 2 ^ 32) (W : World) (hE : Env W) (hd : decOk w = true) :
    Calls Tryz.prog 17 #[.int .u32 (w : Int)] W fun e w' => e = .returned (.string (txt (decI w))) ∧ Below W.heap.size W w' := by
  have D := decode_any w W hE.tabs hw
  have hv : vld (decI w) = true := by
    unfold decOk at hd
    exact (Bool.and_eq_true _ _ ▸ hd).1
  rw [show decR w = decI w from by unfold decR; rw [hd]; rfl, hd] at D
  have F := Lib.hid (fun W hE => fmt_go (decI w) W hE)
  unfold fmtS fmtE at F
  rw [if_pos hv, if_pos hv] at F
  have E := Lib.hid hE
  clear hE hd hv
  obtain ⟨S, hS⟩ : ∃ S, txt (decI w) = S := ⟨_, rfl⟩
  rw [hS] at F ⊢
  clear hS
  obtain ⟨i, hi⟩ : ∃ i, decI w = i := ⟨_, rfl⟩
  rw [hi] at D F
  clear hi
  obtain ⟨i0, i1, i2, i3, i4⟩ := i
  simp only [In.v] at D F
  go_enter Tryz.func17, Tryz.ntmps17
  go_wp2_with fail
  refine D.mono ?_
  rintro e w1 ⟨rfl, hb⟩
  have B1 := Lib.hid hb
  clear hb D
  go_wp2_with fail
  refine (F.out _ (E.out.later (B1.out.alloc B1.out.size _))).mono ?_
  rintro e w2 ⟨rfl, hb⟩
  have B2 := Lib.hid (B1.out.trans ((((Below.refl w1.heap.size w1).alloc (Nat.le_refl _) _).trans (hb.mono (by simp))).mono B1.out.size))
  clear hb F E
  go_wp2
  go_ret
  exact ⟨rfl, B2.out⟩
theorem line_go (w : Nat) (hw : w < 2 ^ 32) (W : World) (hE : Env W) :
    Calls Tryz.prog 17 #[.int .u32 (w : Int)] W fun e w' => e = .returned (.string ⟨(lineL w).toArray⟩) ∧ Below W.heap.size W w' := by
  unfold lineL
  cases hd : decOk w with
  | false => rw [if_neg (by decide)]; exact line_hex w hw W hE hd
  | true =>
    rw [if_pos rfl]
    have e : (⟨(txt (decI w)).data.toList.toArray⟩ : ByteArray) = txt (decI w) := rfl
    rw [e]
    exact line_ok w hw W hE hd
/-! ### A strings.Builder that the call itself has made -/
theorem bsize : (Tryz.prog.info? 49).map (·.size) = some 2 := by kernel_rfl
theorem bytes_info : (Tryz.prog.info? 5).map (fun i => (i.zero, i.size, i.bytes)) = some (some (.int .u8 0), 1, 1) := by kernel_rfl
theorem blies : liesAt Tryz.prog Tryz.prog.depth 49 (2 / Tryz.prog.cellsOf 49) 0 49 1 = true := by kernel_rfl
set_option maxHeartbeats 1000000 in
set_option maxRecDepth 100000 in
theorem copy_used (b : Nat) (w : World) (h0 : w.cell? ⟨b, 0, none⟩ = some (.pointer (some ⟨b, 0, none⟩))) :
    Calls Tryz.prog 41 #[.pointer (some ⟨b, 0, none⟩)] w fun e w' => e = .returned (.tuple #[]) ∧ w' = w := by
  obtain ⟨j, hj, _⟩ := Option.map_eq_some_iff.1 bsize
  go_enter Tryz.func41, Tryz.ntmps41
  go_wp2
  rw [Lib.run_neq_ptr_same w _ Tryz.underlying46 hj]
  go_wp2
  go_end0
  exact ⟨rfl, rfl⟩
set_option maxHeartbeats 1000000 in
set_option maxRecDepth 100000 in
theorem copy_fresh (b : Nat) (w : World) (h0 : w.cell? ⟨b, 0, none⟩ = some (.pointer none)) (hsh : w.shape? b = some (49, 2)) (hfz : w.frozen? ⟨b, 0, none⟩ = false) :
    Calls Tryz.prog 41 #[.pointer (some ⟨b, 0, none⟩)] w fun e w' => e = .returned (.tuple #[]) ∧ w' = w.setCell ⟨b, 0, none⟩ (.pointer (some ⟨b, 0, none⟩)) := by
  obtain ⟨j, hj, hjs⟩ := Option.map_eq_some_iff.1 bsize
  go_enter Tryz.func41, Tryz.ntmps41
  go_wp2
  rw [Lib.run_to_unsafe w ⟨b, 0, none⟩ Tryz.underlying46 Tryz.underlying95 hj (by rw [hjs]; decide) hsh (Nat.zero_lt_succ 1)]
  simp only [Result.andThen]
  rw [Oper.upon_value]
  go_wp2
  rw [run_callFunc_extern Tryz.func65 (by kernel_rfl) (by kernel_rfl) (by kernel_rfl) (e := Extern.AbiNoEscape.same) (by kernel_rfl)]
  rw [Lib.run_noEscape]
  simp only [Result.andThen]
  rw [Oper.upon_value]
  go_wp2
  rw [Lib.run_from_unsafe w ⟨b, 0, none⟩ Tryz.underlying95 Tryz.underlying46 hj hsh blies]
  simp only [Result.andThen]
  rw [Oper.upon_value]
  go_wp2
  go_end0
  exact ⟨rfl, rfl⟩
theorem copy_at (B b : Nat) (bs : List Value) (w : World) (h : Lib.IsBuilderF 49 5 B b bs w) :
    Calls Tryz.prog 41 #[.pointer (some ⟨b, 0, none⟩)] w fun e w' => e = .returned (.tuple #[]) ∧ (Lib.BuilderAtF 49 5 B b (.pointer (some ⟨b, 0, none⟩)) bs w' ∧ Below B w w') := by
  rcases h with h | h
  · refine (copy_fresh b w h.cell0 h.shape h.frozen0).mono ?_
    rintro e w' ⟨rfl, rfl⟩
    exact ⟨rfl, h.used _, (Below.refl B w).setCell (p := ⟨b, 0, none⟩) h.1 _⟩
  · refine (copy_used b w h.cell0).mono ?_
    rintro e w' ⟨rfl, rfl⟩
    exact ⟨rfl, h, Below.refl B _⟩
set_option maxHeartbeats 2000000 in
set_option maxRecDepth 100000 in
theorem write_at (B b : Nat) (bs : List Value) (s : ByteArray) (w : World) (h : Lib.IsBuilderF 49 5 B b bs w) (hlen : bs.length + s.size ≤ 140737488355328) (hBw : B ≤ w.heap.size) :
    Calls Tryz.prog 16 #[.pointer (some ⟨b, 0, none⟩), .string s] w fun e w' => e = .returned (.tuple #[.int .i64 s.size, .nilIface]) ∧ (Lib.IsBuilderF 49 5 B b (bs ++ Lib.strCells s) w' ∧ Below B w w') := by
  obtain ⟨i0, hi, hz0, hz1, hz2⟩ := info_parts bytes_info
  go_enter Tryz.func16, Tryz.ntmps16
  go_wp2_with (go_at_call 41; refine (copy_at B b bs _ h).mono ?_)
  rintro e w1 ⟨rfl, h1, hb1⟩
  obtain ⟨hB, v, hbk, hown, hne⟩ := h1
  have c0 : w1.cell? ⟨b, 0, none⟩ = some (.pointer (some ⟨b, 0, none⟩)) := by rw [Lib.cell_of_heap hbk]; rfl
  have c1 : w1.cell? ⟨b, 1, none⟩ = some v := by rw [Lib.cell_of_heap hbk]; rfl
  go_wp2_with (at_builtin; refine Lib.wpList_append_own_stringF _ rfl _ _ 47 9 rfl B 5 i0 Tryz.underlying47 Tryz.underlying9 hi hz0 hz1 hz2 _ _ _ rfl hown s rfl ?c3 ?c4 ?c5 ?_)
  case c3 => unfold maxLen; omega
  case c4 => omega
  case c5 => have := hb1.size; omega
  intro v' w2 hown' hgrow _
  have hlt : b < w1.heap.size := by
    rcases Nat.lt_or_ge b w1.heap.size with h' | h'
    · exact h'
    · simp [Array.getElem?_eq_none h'] at hbk
  have hb2 : w2.heap[b]? = some (.cells #[.pointer (some ⟨b, 0, none⟩), v] 49 (0, 0)) := by
    rw [hgrow.block b hlt (fun e => hne e.symm)]
    exact hbk
  have d0 : w2.cell? ⟨b, 0, none⟩ = some (.pointer (some ⟨b, 0, none⟩)) := by rw [Lib.cell_of_heap hb2]; rfl
  have d1 : w2.cell? ⟨b, 1, none⟩ = some v := by rw [Lib.cell_of_heap hb2]; rfl
  have f1 : w2.frozen? ⟨b, 1, none⟩ = false := Lib.frozen_of_heap hb2 1
  obtain ⟨ao, n', cap, rfl⟩ : ∃ ao n' cap, v' = .slice ao n' cap := by
    rcases hown'.2 with ⟨hv, _⟩ | ⟨g, cap, cur, fz, hv, _⟩
    · exact ⟨_, _, _, hv⟩
    · exact ⟨_, _, _, hv⟩
  go_wp2
  go_ret2
  refine ⟨rfl, .inr ?_, ?_⟩
  · exact Lib.BuilderAtF.put (T := 49) (e := 5) hB hb2 (bs' := bs ++ Lib.strCells s) (by simpa [Lib.strCells_length] using hown') (by decide)
  · exact (hb1.grown hgrow (by have := hb1.size; omega) (fun k hk => (hown.lt k hk).1)).setCell (p := ⟨b, 1, none⟩) hB _
theorem builderAt_later {T e : TypeId} {B b : Nat} {p : Value} {bs : List Value} {w w' : World} (h : Lib.BuilderAtF T e B b p bs w) (hb : Below w.heap.size w w') : Lib.BuilderAtF T e B b p bs w' := by
  obtain ⟨hB, v, hbk, hown, hne⟩ := h
  have hlt : b < w.heap.size := by
    rcases Nat.lt_or_ge b w.heap.size with h' | h'
    · exact h'
    · simp [Array.getElem?_eq_none h'] at hbk
  exact ⟨hB, v, (hb.block b hlt).trans hbk, hown.kept (grown_of_below hb) (by cases v.ownBlock <;> simp), hne⟩
theorem builder_later {T e : TypeId} {B b : Nat} {bs : List Value} {w w' : World} (h : Lib.IsBuilderF T e B b bs w) (hb : Below w.heap.size w w') : Lib.IsBuilderF T e B b bs w' :=
  h.elim (fun x => .inl (builderAt_later x hb)) (fun x => .inr (builderAt_later x hb))
/-- The lines of a list of words. -/
def disL (ws : List Nat) : List UInt8 := ws.flatMap fun w => lineL w ++ [10]
theorem disL_snoc (ws : List Nat) (w : Nat) : disL (ws ++ [w]) = disL ws ++ (lineL w ++ [10]) := by simp [disL]
theorem disL_append (a b : List Nat) : disL (a ++ b) = disL a ++ disL b := by simp [disL]
theorem disL_cons (w : Nat) (ws : List Nat) : disL (w :: ws) = lineL w ++ ([10] ++ disL ws) := by simp [disL]
theorem hexN_len : ∀ (k w : Nat) (acc : List UInt8), (hexN k w acc).length = k + acc.length
  | 0, w, acc => by simp [hexN]
  | k + 1, w, acc => by rw [hexN, hexN_len k, List.length_cons]; omega
theorem join_len : ∀ (l : List ByteArray), (∀ x ∈ l, x.data.toList.length ≤ 8) → (Lib.join (l.map (fun x => x.data.toList)) [32]).length ≤ 9 * l.length
  | [], _ => by simp [Lib.join, List.intercalate]
  | [x], h => by
    have := h x List.mem_cons_self
    rw [List.map_cons, List.map_nil, join_one, List.length_singleton]
    omega
  | x :: y :: r, h => by
    have h1 := h x List.mem_cons_self
    have h2 := join_len (y :: r) (fun z hz => h z (List.mem_cons_of_mem _ hz))
    rw [List.map_cons] at h2 ⊢
    rw [List.map_cons, join_cons, List.length_append, List.length_append, List.length_singleton, List.length_cons]
    omega
theorem parts_len {i : In} (h : vld i = true) : (parts i).length ≤ 4 ∧ ∀ x ∈ parts i, x.data.toList.length ≤ 8 := by
  have hb := vld_bounds h
  have hm := imm_bounds h
  obtain ⟨k, hk⟩ := Int.eq_ofNat_of_zero_le (show 0 ≤ i.op by omega)
  have hn : (nm i.op).data.toList.length ≤ 8 := by rw [hk]; exact nm_len k (by omega)
  have tl : ∀ c n, n < 100 → (tag c n).data.toList.length ≤ 8 := fun c n hn => by have := dec_len n hn; simp [tag]; omega
  have t1 := tl 114 i.rd.toNat (by omega)
  have t2 := tl 114 i.ra.toNat (by omega)
  have t3 := tl 114 i.rb.toNat (by omega)
  have t5 : (⟨(Lib.itoa i.imm).toArray⟩ : ByteArray).data.toList.length ≤ 8 := by have := itoa_len hm.1 hm.2; simp; omega
  have t4 : fmt i.op = 5 ∨ fmt i.op = 6 → (tag 99 i.imm.toNat).data.toList.length ≤ 8 := fun hf => by
    refine tl 99 _ ?_
    obtain ⟨_, h1, _⟩ := vld_parts h
    rcases hf with hf | hf <;> rw [hf] at h1 <;> simp [numOk, hasF, ptl] at h1 <;> omega
  unfold parts
  repeat' split
  all_goals
    rename_i hf
    refine ⟨by simp, fun x hx => ?_⟩
    simp only [List.mem_cons, List.not_mem_nil, or_false] at hx
    first
      | (rcases hx with rfl | rfl | rfl | rfl <;> first | exact hn | exact t1 | exact t2 | exact t3 | exact t5 | exact t4 (.inl hf) | exact t4 (.inr hf))
      | (rcases hx with rfl | rfl | rfl <;> first | exact hn | exact t1 | exact t2 | exact t3 | exact t5 | exact t4 (.inl hf) | exact t4 (.inr hf))
      | (rcases hx with rfl | rfl <;> first | exact hn | exact t1 | exact t2 | exact t3 | exact t5)
      | (subst hx; exact hn)
theorem txt_len {i : In} (h : vld i = true) : (txt i).data.toList.length ≤ 36 := by
  obtain ⟨h1, h2⟩ := parts_len h
  have := join_len (parts i) h2
  show (Lib.join ((parts i).map (fun x => x.data.toList)) [32]).length ≤ 36
  omega
theorem decOk_vld {w : Nat} (h : decOk w = true) : vld (decI w) = true := by
  unfold decOk at h
  exact (Bool.and_eq_true _ _ ▸ h).1
theorem lineL_len (w : Nat) : (lineL w).length ≤ 36 := by
  unfold lineL
  split
  · rename_i h
    exact txt_len (decOk_vld h)
  · rw [List.length_append, hexN_len]; simp
theorem disL_len : ∀ ws : List Nat, (disL ws).length ≤ 37 * ws.length
  | [] => by simp [disL]
  | w :: ws => by
    have := disL_len ws
    have := lineL_len w
    rw [disL_cons, List.length_append, List.length_append, List.length_singleton, List.length_cons]
    omega
theorem bc_append (a b : List UInt8) : Lib.byteCells (a ++ b) = Lib.byteCells a ++ Lib.byteCells b := by simp [Lib.byteCells]
theorem byteCells_str (l : List UInt8) : Lib.strCells ⟨l.toArray⟩ = Lib.byteCells l := rfl
/-- A slice of words lies there. -/
def Ws (W : World) (p : Option Addr) (ws : List Nat) : Prop := ∀ (k x : Nat), ws[k]? = some x → x < 2 ^ 32 ∧ ∃ a, p = some a ∧ (a.add k).block < W.heap.size ∧ W.cell? (a.add k) = some (.int .u32 (x : Int))
theorem Ws.later {W W' : World} {p : Option Addr} {ws : List Nat} (h : Ws W p ws) (hb : Below W.heap.size W W') : Ws W' p ws := fun k x hk => by
  obtain ⟨h1, a, h2, h3, h4⟩ := h k x hk
  exact ⟨h1, a, h2, Nat.lt_of_lt_of_le h3 hb.size, (hb.cell (p := a.add k) h3).trans h4⟩
set_option maxRecDepth 100000 in
set_option maxHeartbeats 4000000 in
theorem dis_go (ws : List Nat) (hn : ws.length ≤ 1000000) (p : Option Addr) (cap : Nat) (W : World) (hE : Env W) (hp : Ws W p ws) :
    Calls Tryz.prog 6 #[.slice p ws.length cap] W fun e w' => e = .returned (.string ⟨(disL ws).toArray⟩) ∧ Below W.heap.size W w' := by
  have E := Lib.hid hE
  have P := Lib.hid hp
  clear hE hp
  have hB0 := Lib.hid (Lib.IsBuilderF.of (Lib.fresh_isBuilder 49 5 W))
  go_enter Tryz.func6, Tryz.ntmps6
  go_wp2
  go_loopw [8] (fun vi wr => ∃ k : Nat, k ≤ ws.length ∧ vi = .int .i64 (k : Int) ∧ Lib.IsBuilderF 49 5 W.heap.size W.heap.size (Lib.byteCells (disL (ws.take k))) wr ∧ Below W.heap.size W wr) (fun vi _ => ws.length - (intOf vi).toNat)
  case atStart => exact ⟨0, by omega, rfl, hB0.out, (Below.refl _ W).alloc (Nat.le_refl _) _⟩
  case round =>
    obtain ⟨k, hk, rfl, hb1, hb2⟩ := hrel
    have I1 := Lib.hid hb1
    have B1 := Lib.hid hb2
    clear hb1 hb2
    by_cases hkn : k < ws.length
    · obtain ⟨x, hx⟩ : ∃ x, ws[k]? = some x := ⟨ws[k], List.getElem?_eq_getElem hkn⟩
      obtain ⟨hx32, b, rfl, hbl, hc⟩ := P.out k x hx
      have hc1 := (B1.out.cell (p := b.add k) hbl).trans hc
      have htk : Hid (disL (ws.take (k + 1)) = disL (ws.take k) ++ (lineL x ++ [10])) := Lib.hid (by rw [List.take_add_one, hx, Option.toList_some, disL_snoc])
      have hl1 : Hid ((disL (ws.take k)).length ≤ 37 * 1000000) := Lib.hid (by have := disL_len (ws.take k); rw [List.length_take] at this; omega)
      have hl2 : Hid ((lineL x).length ≤ 36) := Lib.hid (lineL_len x)
      have L := line_go x hx32 wr (E.out.later B1.out)
      obtain ⟨D, hD⟩ : ∃ D, disL (ws.take k) = D := ⟨_, rfl⟩
      obtain ⟨X, hX⟩ : ∃ X, lineL x = X := ⟨_, rfl⟩
      rw [hD] at htk hl1 I1
      rw [hX] at L htk hl2
      clear hc hD hX hx
      have q1 : (k : Int) < (ws.length : Int) := by omega
      have q2 : (0 : Int) ≤ (k : Int) := by omega
      go_wp2_with fail
      refine L.mono ?_
      rintro e w2 ⟨rfl, hb⟩
      have B2 := Lib.hid (B1.out.trans (hb.mono B1.out.size))
      have I2 := Lib.hid (builder_later I1.out hb)
      have K1 := write_at W.heap.size W.heap.size (Lib.byteCells D) ⟨X.toArray⟩ w2 I2.out (by have := hl1.out; have := hl2.out; rw [Lib.byteCells_length, Lib.size_eq]; simp; omega) B2.out.size
      clear L hb hc1
      go_wp2_with fail
      refine K1.mono ?_
      rintro e w3 ⟨rfl, hi3, hb3⟩
      have B3 := Lib.hid (B2.out.trans hb3)
      rw [byteCells_str, ← bc_append] at hi3
      have I3 := Lib.hid hi3
      have K2 := write_at W.heap.size W.heap.size (Lib.byteCells (D ++ X)) ⟨#[10]⟩ w3 I3.out (by have := hl1.out; have := hl2.out; rw [Lib.byteCells_length, List.length_append]; show _ + 1 ≤ _; omega) B3.out.size
      clear K1 hi3 hb3
      go_wp2_with fail
      refine K2.mono ?_
      rintro e w4 ⟨rfl, hi4, hb4⟩
      have B4 := Lib.hid (B3.out.trans hb4)
      rw [show (⟨#[10]⟩ : ByteArray) = ⟨([10] : List UInt8).toArray⟩ from rfl, byteCells_str, ← bc_append, List.append_assoc, ← htk.out] at hi4
      have I4 := Lib.hid hi4
      clear K2 hi4 hb4
      go_wp2
      go_roundw
      case rel => exact ⟨k + 1, by omega, by go_num, I4.out, B4.out⟩
      case measure => simp [intOf]; omega
    · obtain rfl : k = ws.length := by omega
      have hl : ws.take ws.length = ws := List.take_length
      rw [hl] at I1
      have K := Tryz.Builder_String_any_k W.heap.size W.heap.size (disL ws) wr I1.out B1.out.size
      clear hl I1
      go_wp2_with fail
      refine K.mono ?_
      rintro e w2 ⟨rfl, _, hb, _⟩
      have B2 := Lib.hid (B1.out.trans hb)
      clear K hb
      go_wp2
      go_ret
      exact ⟨rfl, B2.out⟩
set_option maxRecDepth 100000 in
set_option maxHeartbeats 4000000 in
theorem words_go (a b : List Nat) (p q : Option Addr) (c d : Nat) (W : World) (hp : Ws W p a) (hq : Ws W q b) (ha : a.length ≤ 1000000) (hb : b.length ≤ 1000000) :
    Calls Tryz.prog 15 #[.slice p a.length c, .slice q b.length d] W fun e w' => e = .returned (.bool (decide (a = b))) ∧ Below W.heap.size W w' := by
  by_cases hl : a.length = b.length
  · have hp := Lib.hid hp
    have hq := Lib.hid hq
    obtain ⟨n, hn⟩ : ∃ n, a.length = n := ⟨_, rfl⟩
    have hn' : b.length = n := hl ▸ hn
    rw [hn, hn']
    have hnb : n ≤ 1000000 := by omega
    go_enter Tryz.func15, Tryz.ntmps15
    go_wp2
    go_loopw [5] (fun vi wr => ∃ k : Nat, k ≤ n ∧ vi = .int .i64 (k : Int) ∧ Hid (∀ j, j < k → a[j]? = b[j]?) ∧ Hid (Below W.heap.size W wr)) (fun vi _ => n - (intOf vi).toNat)
    case atStart => exact ⟨0, by omega, rfl, Lib.hid (fun j hj => by omega), Lib.hid (Below.refl _ _)⟩
    case round =>
      obtain ⟨k, hk, rfl, hall, hB⟩ := hrel
      by_cases hkn : k < n
      · obtain ⟨x, hx⟩ : ∃ x, a[k]? = some x := ⟨a[k], List.getElem?_eq_getElem (by omega)⟩
        obtain ⟨y, hy⟩ : ∃ y, b[k]? = some y := ⟨b[k], List.getElem?_eq_getElem (by omega)⟩
        obtain ⟨x32, b1, rfl, l1, c1⟩ := hp.out k x hx
        obtain ⟨y32, b2, rfl, l2, c2⟩ := hq.out k y hy
        have k1 := (hB.out.cell (p := b1.add k) l1).trans c1
        have k2 := (hB.out.cell (p := b2.add k) l2).trans c2
        have q1 : (k : Int) < (n : Int) := by omega
        have q2 : (0 : Int) ≤ (k : Int) := by omega
        have hx := Lib.hid hx
        have hy := Lib.hid hy
        clear c1 c2 hl hn hn' l1 l2
        by_cases he : x = y
        · subst he
          have hall' : Hid (∀ j, j < k + 1 → a[j]? = b[j]?) := Lib.hid (fun j hj => by
            by_cases h : j < k
            · exact hall.out j h
            · obtain rfl : j = k := by omega
              rw [hx.out, hy.out])
          go_wp2
          go_quiet (fail)
          go_wp2
          go_roundw
          case rel => exact ⟨k + 1, by omega, by go_num, hall', Lib.hid (by repeat (first | exact hB.out | refine bdrew ?_ _))⟩
          case measure => simp [intOf]; omega
        · have he' : ¬ (x : Int) = (y : Int) := by omega
          have hne : Hid (a ≠ b) := Lib.hid (fun h => he (by have := hx.out; rw [h, hy.out] at this; exact (Option.some.inj this).symm))
          go_wp2
          go_quiet (fail)
          go_wp2
          go_ret
          exact ⟨(congrArg (fun b => Ending.returned (Value.bool b)) (decide_eq_false hne.out)).symm, by repeat (first | exact hB.out | refine bdrew ?_ _)⟩
      · obtain rfl : k = n := by omega
        have hab : Hid (a = b) := Lib.hid (List.ext_getElem? fun j => by
          by_cases h : j < a.length
          · exact hall.out j (by omega)
          · rw [List.getElem?_eq_none (by omega), List.getElem?_eq_none (by omega)])
        clear hl hn hn'
        go_wp2
        go_ret
        exact ⟨(congrArg (fun b => Ending.returned (Value.bool b)) (decide_eq_true hab.out)).symm, hB.out⟩
  · have e1 : ¬ (a.length : Int) = (b.length : Int) := by omega
    have hne : Hid (a ≠ b) := Lib.hid (fun h => hl (by rw [h]))
    clear hl
    go_enter Tryz.func15, Tryz.ntmps15
    go_wp2
    go_ret
    exact ⟨(congrArg (fun b => Ending.returned (Value.bool b)) (decide_eq_false hne.out)).symm, Below.refl _ _⟩
end Go.Proofs.YtihnglgknncgpaaGreatDoor.Asm
