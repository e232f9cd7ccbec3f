/- strings.SplitAfterSeq and a range over it, walked. -/
import Derived.Test.YtnfkimhhgflfjaaDoorR9
namespace Go.Proofs.YtnfkimhhgflfjaaDoor.Rep
open Go Go.RowKit Go.Shelf
set_option linter.unusedVariables false
set_option linter.unusedSimpArgs false
attribute [local go_sem] Oper.semAt_some
/-- Lines with their ends, and what stands behind the last end. -/
def glue (xs : List (List UInt8)) (y : List UInt8) : List UInt8 := xs.flatMap (fun x => x ++ [10]) ++ y
theorem glue_nil (y : List UInt8) : glue [] y = y := rfl
theorem glue_cons (x : List UInt8) (xs : List (List UInt8)) (y : List UInt8) : glue (x :: xs) y = x ++ 10 :: glue xs y := by simp [glue]
theorem ib_at (x y : List UInt8) (c : UInt8) (h : c ∉ x) : Lib.indexByte (x ++ c :: y) c = (x.length : Int) := by
  induction x with
  | nil => simp [Lib.indexByte]
  | cons b l ih =>
    have h1 : b ≠ c := fun e => h (by rw [e]; exact List.mem_cons_self)
    have ih := ih (fun g => h (List.mem_cons_of_mem _ g))
    rw [List.cons_append, Lib.indexByte, ih, if_neg (by simpa using h1), if_neg (fun e => by have := beq_iff_eq.1 e; omega), List.length_cons]
    omega
theorem ib_no (x : List UInt8) (c : UInt8) (h : c ∉ x) : Lib.indexByte x c = -1 := by
  induction x with
  | nil => rfl
  | cons b l ih =>
    have h1 : b ≠ c := fun e => h (by rw [e]; exact List.mem_cons_self)
    have ih := ih (fun g => h (List.mem_cons_of_mem _ g))
    rw [Lib.indexByte, ih, if_neg (by simpa using h1)]
    rfl
theorem ext_head (x y : List UInt8) : (⟨(x ++ 10 :: y).toArray⟩ : ByteArray).extract 0 (x.length + 1) = ⟨(x ++ [10]).toArray⟩ := by
  apply ByteArray.ext
  apply Array.ext'
  rw [Lib.extract_from_zero]
  show (x ++ 10 :: y).take (x.length + 1) = x ++ [10]
  rw [show x ++ 10 :: y = (x ++ [10]) ++ y by simp]
  exact List.take_left' (by simp)
theorem ext_tail (x y : List UInt8) : (⟨(x ++ 10 :: y).toArray⟩ : ByteArray).extract (x.length + 1) (x ++ 10 :: y).length = ⟨y.toArray⟩ := by
  apply ByteArray.ext
  apply Array.ext'
  have := Lib.extract_to_end (⟨(x ++ 10 :: y).toArray⟩ : ByteArray) (x.length + 1)
  rw [Lib.size_eq] at this
  refine Eq.trans this ?_
  show (x ++ 10 :: y).drop (x.length + 1) = y
  rw [show x ++ 10 :: y = (x ++ [10]) ++ y by simp]
  exact List.drop_left' (by simp)
theorem splitSeq_any (s : ByteArray) (w : World) :
    Calls Tryd.prog 38 #[.string s, .string ⟨#[10]⟩, .int .i64 1] w fun e w' =>
      e = .returned (.func (.func 46) #[] #[.pointer (some ⟨w.heap.size + 1, 0, none⟩), .pointer (some ⟨w.heap.size, 0, none⟩), .pointer (some ⟨w.heap.size + 1 + 1, 0, none⟩)]) ∧ w' = ((w.alloc (.cells #[.string s] 9)).alloc (.cells #[.string ⟨#[10]⟩] 9)).alloc (.cells #[.int .i64 1] 3) := by
  go_enter Tryd.func38, Tryd.ntmps38
  go_wp2
  go_ret
  exact ⟨rfl, rfl⟩
theorem seq_any (s : ByteArray) (w : World) :
    Calls Tryd.prog 22 #[.string s, .string ⟨#[10]⟩] w fun e w' =>
      e = .returned (.func (.func 46) #[] #[.pointer (some ⟨w.heap.size + 1, 0, none⟩), .pointer (some ⟨w.heap.size, 0, none⟩), .pointer (some ⟨w.heap.size + 1 + 1, 0, none⟩)]) ∧ w' = ((w.alloc (.cells #[.string s] 9)).alloc (.cells #[.string ⟨#[10]⟩] 9)).alloc (.cells #[.int .i64 1] 3) := by
  have S := splitSeq_any s w
  go_enter Tryd.func22, Tryd.ntmps22
  go_wp2_with fail
  refine S.mono ?_
  rintro e w' ⟨rfl, rfl⟩
  go_wp2
  go_ret
  exact ⟨rfl, rfl⟩
/-- How long the string in a box is. -/
def boxLen (W : World) (b : Nat) : Nat := match W.cell? ⟨b, 0, none⟩ with
  | some (.string s) => s.size
  | _ => 0
theorem Boxed.len {W : World} {b : Nat} {t : TypeId} {s : ByteArray} (h : Boxed W b t (.string s)) : boxLen W b = s.size := by
  unfold boxLen
  rw [h.cell]
theorem glue_drop (xs : List (List UInt8)) (y : List UInt8) (k : Nat) : (glue (xs.drop k) y).length ≤ (glue xs y).length := by
  have : glue xs y = glue (xs.take k) (glue (xs.drop k) y) := by
    unfold glue
    rw [← List.append_assoc, ← List.flatMap_append, List.take_append_drop]
  rw [this]
  unfold glue
  simp only [List.length_append]
  omega
set_option maxRecDepth 100000 in
set_option maxHeartbeats 4000000 in
/-- The closure of strings.SplitAfterSeq: it yields each line with its end, at last what stands behind the last end. -/
theorem split1_loop (m l bp bs bv : Nat) (xs : List (List UInt8)) (y : List UInt8) (hxs : ∀ x ∈ xs, (10 : UInt8) ∉ x) (hy : (10 : UInt8) ∉ y) (hlen : (glue xs y).length < 4294967281)
    (J : Nat → Nat → World → Prop) (Jx Jd : World → Prop)
    (hJ : ∀ k r W, J k r W → Boxed W bp 9 (.string ⟨#[10]⟩) ∧ Boxed W bs 9 (.string ⟨(glue (xs.drop r) y).toArray⟩) ∧ Boxed W bv 3 (.int .i64 1))
    (hS : ∀ k W, J (k + 1) k W → J (k + 1) (k + 1) (W.setCell ⟨bs, 0, none⟩ (.string ⟨(glue (xs.drop (k + 1)) y).toArray⟩)))
    (hY : ∀ k x W, xs[k]? = some x → J k k W → YieldAt Fence.wide m Tryd.prog l #[.string ⟨(x ++ [10]).toArray⟩] W fun e W' => (e = .returned (.bool true) ∧ J (k + 1) k W') ∨ (e = .returned (.bool false) ∧ Jx W'))
    (hZ : ∀ W, J xs.length xs.length W → YieldAt Fence.wide m Tryd.prog l #[.string ⟨y.toArray⟩] W fun e W' => (∃ b, e = .returned (.bool b)) ∧ Jd W')
    (W : World) (h0 : J 0 0 W) :
    CallsIn Fence.wide (m + 1) Tryd.prog 46 #[.func (.yield l) #[] #[], .pointer (some ⟨bp, 0, none⟩), .pointer (some ⟨bs, 0, none⟩), .pointer (some ⟨bv, 0, none⟩)] W fun e W' => (∃ v, e = .returned v) ∧ (Jd W' ∨ Jx W') := by
  refine callsIn_of_wp Tryd.func46 rfl trivial ?_ rfl
  simp only [Tryd.ntmps46, List.size_toArray, List.length_cons, List.length_nil, Nat.reduceAdd, Nat.reduceSub, Array.replicate_succ, Array.replicate_zero, List.push_toArray, List.append_toArray, List.nil_append, List.cons_append]
  obtain ⟨b1, b2, b3⟩ := hJ 0 0 W h0
  have c1 := b1.cell
  have H0 := Lib.hid h0
  clear h0 b2 b3
  gi_wp2
  gi_loopw [7] (fun _ wr => ∃ k : Nat, k ≤ xs.length ∧ J k k wr) (fun _ wr => boxLen wr bs)
  case atStart => exact ⟨0, by omega, H0.out⟩
  case round =>
    obtain ⟨k, hk, hj⟩ := hrel
    obtain ⟨d1, d2, d3⟩ := hJ k k _ hj
    have e1 := d1.cell
    have e2 := d2.cell
    have e3 := d3.cell
    have HJ := Lib.hid hj
    clear hj d1 d2 d3 c1 b1 H0
    by_cases hkn : k < xs.length
    · obtain ⟨x, hx⟩ : ∃ x, xs[k]? = some x := ⟨xs[k], List.getElem?_eq_getElem hkn⟩
      have hdr : xs.drop k = x :: xs.drop (k + 1) := by
        rw [List.drop_eq_getElem_cons hkn]
        rw [List.getElem?_eq_getElem hkn] at hx
        rw [Option.some.inj hx]
      have hx10 : (10 : UInt8) ∉ x := hxs x (List.mem_of_getElem? hx)
      have Y := Lib.hid (hY k x wr hx HJ.out)
      have SS := Lib.hid (hS k)
      have hbw : Hid (boxLen wr bs = (glue (xs.drop k) y).length) := Lib.hid (by unfold boxLen; rw [e2]; rfl)
      rw [hdr, glue_cons] at e2 hbw
      obtain ⟨r, hr⟩ : ∃ r, glue (xs.drop (k + 1)) y = r := ⟨_, rfl⟩
      rw [hr] at e2 SS hbw
      have hl : (x ++ 10 :: r).length < 4294967281 := by
        have h1 : (glue (xs.drop k) y).length ≤ (glue xs y).length := glue_drop xs y k
        rw [hdr, glue_cons, hr] at h1
        omega
      have I := Lib.hid (fun w => Tryd.strings_Index_one ⟨(x ++ 10 :: r).toArray⟩ 10 w)
      rw [show (⟨(x ++ 10 :: r).toArray⟩ : ByteArray).data.toList = x ++ 10 :: r from rfl, ib_at x r 10 hx10] at I
      have hE1 := ext_head x r
      have hE2 := ext_tail x r
      have hsz : (⟨(x ++ 10 :: r).toArray⟩ : ByteArray).size = (x ++ 10 :: r).length := rfl
      have hJn : Hid (∀ w, J (k + 1) k w → Boxed w bp 9 (.string ⟨#[10]⟩) ∧ Boxed w bs 9 (.string ⟨(x ++ 10 :: r).toArray⟩) ∧ Boxed w bv 3 (.int .i64 1)) := Lib.hid (fun w h => by
        have := hJ (k + 1) k w h
        rw [hdr, glue_cons, hr] at this
        exact this)
      obtain ⟨R, hR⟩ : ∃ R : ByteArray, ⟨(x ++ 10 :: r).toArray⟩ = R := ⟨_, rfl⟩
      obtain ⟨N, hN⟩ : ∃ N, (x ++ 10 :: r).length = N := ⟨_, rfl⟩
      have hN2 : x.length + 1 ≤ N := by rw [← hN, List.length_append, List.length_cons]; omega
      have hN3 : Hid (r.length < N) := Lib.hid (by rw [← hN, List.length_append, List.length_cons]; omega)
      rw [hN] at hE2 hsz hl hbw
      rw [hR] at e2 I hE1 hE2 hsz hJn
      obtain ⟨n, hn⟩ : ∃ n, x.length = n := ⟨_, rfl⟩
      rw [hn] at I hE1 hE2 hN2
      obtain ⟨fn, tmps, assign, body, hy, hRd⟩ := Y.out
      obtain ⟨F, hF⟩ : ∃ F : ByteArray, ⟨(x ++ [10]).toArray⟩ = F := ⟨_, rfl⟩
      rw [hF] at hE1 hy
      clear hN hR hn hr hF hdr hx hx10 HJ Y
      have q0 : (0 : Int) ≤ (n : Int) + 1 := by omega
      have q1 : (n : Int) + 1 ≤ (N : Int) := by omega
      have q2 : ((n : Int) + 1).toNat = n + 1 := by omega
      have q3 : ¬ (n : Int) < 0 := by omega
      gi_wp2_with (refine ⟨trivial, ?_⟩; gi_at_call 48; refine (callsIn_wide.2 (I.out _)).mono ?_; rintro e w' ⟨rfl, rfl⟩)
      refine hRd.mono ?_
      rintro e W3 (⟨rfl, hj3⟩ | ⟨rfl, hj3⟩)
      · obtain ⟨g1, g2, g3⟩ := hJn.out W3 hj3
        have SS2 := Lib.hid (SS.out W3 hj3)
        have hLn := Lib.hid (Boxed.len (g2.set (.string ⟨r.toArray⟩)))
        have o1 := g1.cell
        have o2 := g2.cell
        have o3 := g2.frozen
        clear g1 g2 g3 hj3 hJn SS e1 e2 e3 I hRd
        gi_wp2
        go_roundw
        case rel => exact ⟨k + 1, by omega, SS2.out⟩
        case measure =>
          rw [hLn.out, hbw.out]
          exact hN3.out
      · clear hJn SS e1 e2 e3 I hRd
        gi_wp2
        refine bodyPost_ret (results_none rfl _ _ _) rfl ?_
        exact ⟨⟨_, rfl⟩, .inr hj3⟩
    · obtain rfl : k = xs.length := by omega
      obtain ⟨fn, tmps, assign, body, hyy, hRd⟩ := hZ wr HJ.out
      rw [List.drop_length, glue_nil] at e2
      have I := Lib.hid (fun w => Tryd.strings_Index_one ⟨y.toArray⟩ 10 w)
      rw [show (⟨y.toArray⟩ : ByteArray).data.toList = y from rfl, ib_no y 10 hy] at I
      obtain ⟨Y, hY2⟩ : ∃ Y : ByteArray, ⟨y.toArray⟩ = Y := ⟨_, rfl⟩
      rw [hY2] at e2 I hyy
      clear hY2 HJ
      gi_wp2_with (refine ⟨trivial, ?_⟩; gi_at_call 48; refine (callsIn_wide.2 (I.out _)).mono ?_; rintro e w' ⟨rfl, rfl⟩)
      refine hRd.mono ?_
      rintro e W3 ⟨⟨v, rfl⟩, hj3⟩
      clear e1 e2 e3 I hRd
      gi_wp2
      go_end0
      exact ⟨⟨_, rfl⟩, .inl hj3⟩
/-- How a round's body may be left here: on to the next round. -/
def goesOn (I : World → Prop) (W : World) : Exit → Act → World → Prop
  | .normal, _, W' => KeepsOthers W W' ∧ I W'
  | _, _, _ => False
theorem goesOn_lets {I : World → Prop} {W : World} : ¬ LetsOut (goesOn I W) := fun ⟨_, _, h⟩ => h
/-- A range over strings.SplitAfterSeq(s, eol), for a body that goes on at each line and at the rest. -/
theorem range_lines {g : Operand} {ps : Array Tmp} {assign body : Code} {Q : Exit → Act → World → Prop} {a : Act} {w : World} (bp bs bv : Nat) (xs : List (List UInt8)) (y : List UInt8)
    (hxs : ∀ x ∈ xs, (10 : UInt8) ∉ x) (hy : (10 : UInt8) ∉ y) (hlen : (glue xs y).length < 4294967281) (hps : ps.size = 1)
    (hg : a.eval g = .func (.func 46) #[] #[.pointer (some ⟨bp, 0, none⟩), .pointer (some ⟨bs, 0, none⟩), .pointer (some ⟨bv, 0, none⟩)])
    (I : Nat → Nat → World → Prop) (Id : World → Prop)
    (hI : ∀ k r W, I k r W → Boxed W bp 9 (.string ⟨#[10]⟩) ∧ Boxed W bs 9 (.string ⟨(glue (xs.drop r) y).toArray⟩) ∧ Boxed W bv 3 (.int .i64 1))
    (hS : ∀ k W, I (k + 1) k W → I (k + 1) (k + 1) (W.setCell ⟨bs, 0, none⟩ (.string ⟨(glue (xs.drop (k + 1)) y).toArray⟩)))
    (hput : ∀ k r W q q', I k r W → W.heap[w.heap.size + 1]? = some (.loop q) → I k r (W.putObj (w.heap.size + 1) (.loop q')))
    (hputd : ∀ W q q', Id W → W.heap[w.heap.size + 1]? = some (.loop q) → Id (W.putObj (w.heap.size + 1) (.loop q')))
    (h0 : ∀ q, I 0 0 ((w.alloc (.deferred (some []))).alloc (.loop q)))
    (a₁ : ByteArray → Act)
    (hassign : ∀ (s : ByteArray) (W : World) (K : Act → World → Prop), K (a₁ s) W →
      assign.wpIn (Fence.wide.inRound (w.heap.size + 1)) 3 Tryd.prog (Exit.then K (fun _ _ _ => False)) { tmps := (ps.zip #[.string s]).foldl (fun t (p, v) => t.setIfInBounds p v) a.tmps, defers := [] } W)
    (hbody : ∀ (k : Nat) (x : List UInt8) (W : World), xs[k]? = some x → I k k W → body.wpIn (Fence.wide.inRound (w.heap.size + 1)) 3 Tryd.prog (goesOn (I (k + 1) k) W) (a₁ ⟨(x ++ [10]).toArray⟩) W)
    (hlast : ∀ W, I xs.length xs.length W → body.wpIn (Fence.wide.inRound (w.heap.size + 1)) 3 Tryd.prog (goesOn Id W) (a₁ ⟨y.toArray⟩) W)
    (hdone : ∀ W, Id W → W.heap[w.heap.size]? = some (.deferred (some [])) → Q .normal { a with defers := { target := .collected w.heap.size, args := #[] } :: a.defers } W) :
    (Code.rangeFunc g ps assign body).wpIn Fence.wide 5 Tryd.prog Q a w := by
  refine wpIn_rangeFunc fun fn hfn => ?_
  obtain ⟨r, hrr⟩ : ∃ r : Loop, r = { state := .ready, pending := none, fn, tmps := a.tmps, params := ps, assign, body, defers := w.heap.size } := ⟨_, rfl⟩
  have he := run_enterLoop_outer (w := w) (P := Tryd.prog) fn a.tmps ps assign body
  rw [← hrr] at he
  have z1 : (w.alloc (.deferred (some []))).heap.size = w.heap.size + 1 := World.size_alloc _ _
  have hl1 : ((w.alloc (.deferred (some []))).alloc (.loop r)).heap[w.heap.size + 1]? = some (.loop r) := by rw [← z1]; exact World.alloc_heap_new _ _
  have hd1 : ((w.alloc (.deferred (some []))).alloc (.loop r)).heap[w.heap.size]? = some (.deferred (some [])) := (Below.heap_alloc _ _ _ (by simp)).trans (World.alloc_heap_new w _)
  obtain ⟨W1, hW1⟩ : ∃ W1, (w.alloc (.deferred (some []))).alloc (.loop r) = W1 := ⟨_, rfl⟩
  have h0' := h0 r
  rw [hW1] at he hl1 hd1 h0'
  refine ⟨w.heap.size + 1, [{ target := .collected w.heap.size, args := #[] }], W1, { target := .fn (.func 46) #[.pointer (some ⟨bp, 0, none⟩), .pointer (some ⟨bs, 0, none⟩), .pointer (some ⟨bv, 0, none⟩)], args := #[.func (.yield (w.heap.size + 1)) #[] #[]] }, W1, 46,
    #[.func (.yield (w.heap.size + 1)) #[] #[], .pointer (some ⟨bp, 0, none⟩), .pointer (some ⟨bs, 0, none⟩), .pointer (some ⟨bv, 0, none⟩)], W1, he, ?_, fun _ _ => trivial, ?_, (fun h => by cases h), ?_⟩
  · simp only [resolve, hg]
    simp [go_sem]
  · have := enters_of Tryd.func46 (by kernel_rfl) rfl
    simp [invoke, go_sem, this]
  obtain ⟨rb, hrb⟩ : ∃ rb : Loop, rb = { r with state := .busy } := ⟨_, rfl⟩
  have eB : ∀ W3 : World, W3.heap[w.heap.size + 1]? = some (.loop r) → (Instr.beginRound (w.heap.size + 1)).run Tryd.prog W3 = .ok () (W3.putObj (w.heap.size + 1) (.loop rb)) := fun W3 h => by
    rw [hrb]; exact run_beginRound h (by rw [hrr])
  have eN : ∀ W3 : World, W3.heap[w.heap.size + 1]? = some (.loop rb) → (Instr.endRound (w.heap.size + 1) none).run Tryd.prog W3 = .ok (.bool true) (W3.putObj (w.heap.size + 1) (.loop r)) := fun W3 h => by
    have := run_endRound (P := Tryd.prog) none h
    rw [hrb, hrr] at this
    rw [hrr]
    exact this
  have eL : ∀ W3 : World, W3.heap[w.heap.size + 1]? = some (.loop r) → (Instr.endLoop (w.heap.size + 1)).run Tryd.prog W3 = .ok none (W3.putObj (w.heap.size + 1) (.loop { r with state := .exhausted, pending := none })) := fun W3 h => by
    have := run_endLoop (P := Tryd.prog) h (by rw [hrr]; simp)
    rw [show r.pending = none by rw [hrr]] at this
    exact this
  refine (split1_loop 3 (w.heap.size + 1) bp bs bv xs y hxs hy hlen
    (fun k q W => I k q W ∧ W.heap[w.heap.size + 1]? = some (.loop r) ∧ W.heap[w.heap.size]? = some (.deferred (some [])))
    (fun _ => False)
    (fun W => Id W ∧ W.heap[w.heap.size + 1]? = some (.loop r) ∧ W.heap[w.heap.size]? = some (.deferred (some [])))
    (fun k q W h => hI k q W h.1) ?_ ?_ ?_ W1 ⟨h0', hl1, hd1⟩).mono ?_
  · rintro k W ⟨hi, hl, hd⟩
    obtain ⟨_, b2, _⟩ := hI _ _ W hi
    refine ⟨hS k W hi, ?_, ?_⟩
    · exact (Below.heap_setCell _ _ _ _ (fun e => by dsimp only at e; rw [e, show W.heap[bs]? = _ from b2] at hl; cases hl)).trans hl
    · exact (Below.heap_setCell _ _ _ _ (fun e => by dsimp only at e; rw [e, show W.heap[bs]? = _ from b2] at hd; cases hd)).trans hd
  · rintro k x W hk ⟨hi, hl, hd⟩
    have hlt := (Array.getElem?_eq_some_iff.1 hl).1
    have hi2 := hput k k W r rb hi hl
    have hl2 : (W.putObj (w.heap.size + 1) (.loop rb)).heap[w.heap.size + 1]? = some (.loop rb) := World.putObj_heap_same hlt
    have hd2 : (W.putObj (w.heap.size + 1) (.loop rb)).heap[w.heap.size]? = some (.deferred (some [])) := (World.putObj_heap_other (by omega)).trans hd
    have hq := hassign ⟨(x ++ [10]).toArray⟩ W (fun a₁ w₁ => ∃ w₂, (Instr.beginRound (w.heap.size + 1)).run Tryd.prog w₁ = .ok () w₂ ∧ body.wpIn (Fence.wide.inRound (w.heap.size + 1)) 3 Tryd.prog (roundPost Tryd.prog (w.heap.size + 1) (fun e W' => (e = .returned (.bool true) ∧ I (k + 1) k W' ∧ W'.heap[w.heap.size + 1]? = some (.loop r) ∧ W'.heap[w.heap.size]? = some (.deferred (some []))) ∨ (e = .returned (.bool false) ∧ False))) a₁ w₂) ⟨_, eB W hl, by
      refine wpIn_mono (hbody k x _ hk hi2) fun e a3 W3 hp => ?_
      cases e with
      | normal =>
        have hl3 := hp.1.same _ _ hl2 rfl
        exact ⟨_, _, eN _ hl3, .inl ⟨rfl, hput _ _ _ _ _ hp.2 hl3, World.putObj_heap_same (Array.getElem?_eq_some_iff.1 hl3).1, (World.putObj_heap_other (by omega)).trans (hp.1.same _ _ hd2 rfl)⟩⟩
      | ret => exact hp.elim
      | exit id => exact hp.elim
      | goto t => exact hp.elim
      | panic ch => exact hp.elim
      | outgrown => exact hp.elim⟩
    have hyy := run_yield (P := Tryd.prog) (args := #[.string ⟨(x ++ [10]).toArray⟩]) hl (by rw [hrr]; exact hps.symm)
    rw [show r.fn = fn by rw [hrr], show r.params = ps by rw [hrr], show r.tmps = a.tmps by rw [hrr], show r.assign = assign by rw [hrr], show r.body = body by rw [hrr]] at hyy
    exact ⟨_, _, _, _, hyy, roundIn_of_wpIn hfn hq⟩
  · rintro W ⟨hi, hl, hd⟩
    have hlt := (Array.getElem?_eq_some_iff.1 hl).1
    have hi2 := hput _ _ W r rb hi hl
    have hl2 : (W.putObj (w.heap.size + 1) (.loop rb)).heap[w.heap.size + 1]? = some (.loop rb) := World.putObj_heap_same hlt
    have hd2 : (W.putObj (w.heap.size + 1) (.loop rb)).heap[w.heap.size]? = some (.deferred (some [])) := (World.putObj_heap_other (by omega)).trans hd
    have hq := hassign ⟨y.toArray⟩ W (fun a₁ w₁ => ∃ w₂, (Instr.beginRound (w.heap.size + 1)).run Tryd.prog w₁ = .ok () w₂ ∧ body.wpIn (Fence.wide.inRound (w.heap.size + 1)) 3 Tryd.prog (roundPost Tryd.prog (w.heap.size + 1) (fun e W' => (∃ b, e = .returned (.bool b)) ∧ Id W' ∧ W'.heap[w.heap.size + 1]? = some (.loop r) ∧ W'.heap[w.heap.size]? = some (.deferred (some [])))) a₁ w₂) ⟨_, eB W hl, by
      refine wpIn_mono (hlast _ hi2) fun e a3 W3 hp => ?_
      cases e with
      | normal =>
        have hl3 := hp.1.same _ _ hl2 rfl
        exact ⟨_, _, eN _ hl3, ⟨_, rfl⟩, hputd _ _ _ hp.2 hl3, World.putObj_heap_same (Array.getElem?_eq_some_iff.1 hl3).1, (World.putObj_heap_other (by omega)).trans (hp.1.same _ _ hd2 rfl)⟩
      | ret => exact hp.elim
      | exit id => exact hp.elim
      | goto t => exact hp.elim
      | panic ch => exact hp.elim
      | outgrown => exact hp.elim⟩
    have hyy := run_yield (P := Tryd.prog) (args := #[.string ⟨y.toArray⟩]) hl (by rw [hrr]; exact hps.symm)
    rw [show r.fn = fn by rw [hrr], show r.params = ps by rw [hrr], show r.tmps = a.tmps by rw [hrr], show r.assign = assign by rw [hrr], show r.body = body by rw [hrr]] at hyy
    exact ⟨_, _, _, _, hyy, roundIn_of_wpIn hfn hq⟩
  · rintro e W2 ⟨⟨v, rfl⟩, (⟨hi, hl, hd⟩ | hf)⟩
    · exact ⟨none, _, eL _ hl, hdone _ (hputd _ _ _ hi hl) ((World.putObj_heap_other (by omega)).trans hd)⟩
    · exact hf.elim
end Go.Proofs.YtnfkimhhgflfjaaDoor.Rep
