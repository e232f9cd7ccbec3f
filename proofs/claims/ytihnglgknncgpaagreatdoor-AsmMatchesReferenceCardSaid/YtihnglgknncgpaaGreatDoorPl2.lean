/- Lines of words: what asm.one and asm.Assemble make of them. -/
import Derived.Test.YtihnglgknncgpaaGreatDoorAs1
import Derived.Test.YtihnglgknncgpaaGreatDoorPl1
import Derived.Test.YtihnglgknncgpaaGreatDoorIsaW4
namespace Go.Proofs.YtihnglgknncgpaaGreatDoor.Asm
open Go Go.RowKit Go.Proofs.YtihnglgknncgpaaGreatDoor.PAsmEveryWordHasOneLine Go.Proofs.YtihnglgknncgpaaGreatDoorW.PrintWords Go.Proofs.YtihnglgknncgpaaGreatDoorW.PrintLast Go.Proofs.YtihnglgknncgpaaGreatDoorW.PrintMore Go.Proofs.YtihnglgknncgpaaGreatDoor.Bm Go.Proofs.YtihnglgknncgpaaGreatDoor.Isa
set_option linter.unusedVariables false
set_option linter.unusedSimpArgs false
theorem join_mem (c : UInt8) : ∀ (l : List (List UInt8)), c ∈ Lib.join l [32] → c = 32 ∨ ∃ x ∈ l, c ∈ x
  | [], h => by simp [Lib.join, List.intercalate] at h
  | [x], h => by rw [join_one] at h; exact .inr ⟨x, List.mem_cons_self, h⟩
  | x :: y :: r, h => by
    rw [join_cons, List.mem_append, List.mem_append, List.mem_singleton] at h
    rcases h with h | h | h
    · exact .inr ⟨x, List.mem_cons_self, h⟩
    · exact .inl h
    · rcases join_mem c (y :: r) h with h | ⟨z, hz, h⟩
      · exact .inl h
      · exact .inr ⟨z, List.mem_cons_of_mem _ hz, h⟩
theorem nm_nl : ∀ k : Nat, k < 26 → (10 : UInt8) ∉ (nm (k : Int)).data.toList := by decide +kernel
theorem tag_nl (c : UInt8) (hc : c ≠ 10) (n : Nat) : (10 : UInt8) ∉ (tag c n).data.toList := by
  show (10 : UInt8) ∉ c :: Lib.decDigits n
  rw [List.mem_cons]
  rintro (h | h)
  · exact hc h.symm
  · exact dec_no n 10 (by decide) h
theorem parts_nl {i : In} (h : vld i = true) : ∀ x ∈ parts i, (10 : UInt8) ∉ x.data.toList := by
  have hb := vld_bounds h
  obtain ⟨k, hk⟩ := Int.eq_ofNat_of_zero_le (show 0 ≤ i.op by omega)
  have hn : (10 : UInt8) ∉ (nm i.op).data.toList := by rw [hk]; exact nm_nl k (by omega)
  have t1 : ∀ n, (10 : UInt8) ∉ (tag 114 n).data.toList := tag_nl 114 (by decide)
  have t2 : ∀ n, (10 : UInt8) ∉ (tag 99 n).data.toList := tag_nl 99 (by decide)
  have t3 : (10 : UInt8) ∉ (⟨(Lib.itoa i.imm).toArray⟩ : ByteArray).data.toList := by simpa using itoa_no i.imm 10 (by decide) (by decide)
  intro x hx
  unfold parts at hx
  repeat' split at hx
  all_goals
    simp only [List.mem_cons, List.not_mem_nil, or_false] at hx
    first
      | (rcases hx with rfl | rfl | rfl | rfl <;> first | exact hn | exact t1 _ | exact t2 _ | exact t3)
      | (rcases hx with rfl | rfl | rfl <;> first | exact hn | exact t1 _ | exact t2 _ | exact t3)
      | (rcases hx with rfl | rfl <;> first | exact hn | exact t1 _ | exact t2 _ | exact t3)
      | (subst hx; exact hn)
theorem txt_nl {i : In} (h : vld i = true) : (10 : UInt8) ∉ (txt i).data.toList := by
  intro hc
  rcases join_mem 10 _ hc with h1 | ⟨x, hx, h1⟩
  · exact absurd h1 (by decide)
  · obtain ⟨z, hz, rfl⟩ := List.mem_map.1 hx
    exact parts_nl h z hz h1
theorem hexd_nl : ∀ d : Nat, d < 16 → hexd d ≠ 10 ∧ dig16 (hexd d) = some d := by decide +kernel
theorem hexN_nl : ∀ (k w : Nat) (acc : List UInt8), (10 : UInt8) ∉ acc → (10 : UInt8) ∉ hexN k w acc
  | 0, w, acc, h => h
  | k + 1, w, acc, h => by
    rw [hexN]
    refine hexN_nl k _ _ ?_
    rw [List.mem_cons]
    rintro (e | e)
    · exact (hexd_nl (w % 16) (by omega)).1 e.symm
    · exact h e
theorem lineL_nl (w : Nat) : (10 : UInt8) ∉ lineL w := by
  unfold lineL
  split
  · rename_i h
    exact txt_nl (decOk_vld h)
  · rw [List.mem_append]
    rintro (h | h)
    · revert h; decide
    · exact hexN_nl 8 w [] (by simp) h
theorem hexN_app : ∀ (k w : Nat) (acc : List UInt8), hexN k w acc = hexN k w [] ++ acc
  | 0, w, acc => rfl
  | k + 1, w, acc => by rw [hexN, hexN, hexN_app k (w / 16) (hexd (w % 16) :: acc), hexN_app k (w / 16) [hexd (w % 16)]]; simp
theorem hexN_snoc (k w : Nat) : hexN (k + 1) w [] = hexN k (w / 16) [] ++ [hexd (w % 16)] := by rw [hexN, hexN_app]
theorem pu_snoc (c : UInt8) (d : Nat) (hc : dig16 c = some d) : ∀ (l : List UInt8) (acc m : Nat), pu16 acc l = .ok m → m * 16 + d ≤ 4294967295 → pu16 acc (l ++ [c]) = .ok (m * 16 + d)
  | [], acc, m, h, hm => by
    simp only [pu16] at h
    injection h with h
    subst h
    simp only [List.nil_append, pu16, hc]
    rw [if_neg (by omega)]
  | b :: l, acc, m, h, hm => by
    simp only [List.cons_append, pu16] at h ⊢
    split at h
    · cases h
    · rename_i d' hd'
      split at h
      · cases h
      · rename_i hov
        simp only [hd', if_neg hov]
        exact pu_snoc c d hc l _ m h hm
theorem pu_hex : ∀ (k w : Nat), w < 16 ^ k → w ≤ 4294967295 → pu16 0 (hexN k w []) = .ok w
  | 0, w, h, _ => by
    obtain rfl : w = 0 := by simpa using h
    rfl
  | k + 1, w, h, hw => by
    rw [hexN_snoc]
    rw [Nat.pow_succ] at h
    have := pu_snoc (hexd (w % 16)) (w % 16) (hexd_nl (w % 16) (by omega)).2 _ 0 (w / 16) (pu_hex k (w / 16) (by omega) (by omega)) (by omega)
    rw [this]
    congr 1
    omega
theorem word_op : opTo ⟨#[119, 111, 114, 100]⟩ 26 = 0 := by decide +kernel
theorem hexN_sp (k w : Nat) : (32 : UInt8) ∉ hexN k w [] := by
  suffices key : ∀ (k w : Nat) (acc : List UInt8), (32 : UInt8) ∉ acc → (32 : UInt8) ∉ hexN k w acc from key k w [] (by simp)
  intro k
  induction k with
  | zero => exact fun w acc h => h
  | succ k ih =>
    intro w acc h
    rw [hexN]
    refine ih _ _ ?_
    rw [List.mem_cons]
    have hd : ∀ d : Nat, d < 16 → hexd d ≠ 32 := by decide +kernel
    rintro (e | e)
    · exact hd (w % 16) (by omega) e.symm
    · exact h e
theorem parse_word (w : Nat) : ¬ parseOk ⟨([119, 111, 114, 100, 32] ++ hexN 8 w []).toArray⟩ := by
  rintro ⟨hv, _⟩
  have hp : pieces ⟨([119, 111, 114, 100, 32] ++ hexN 8 w []).toArray⟩ = [⟨#[119, 111, 114, 100]⟩, ⟨(hexN 8 w []).toArray⟩] := by
    refine Eq.trans (congrArg pieces ?_) (pieces_join [⟨#[119, 111, 114, 100]⟩, ⟨(hexN 8 w []).toArray⟩] (by simp) ?_)
    · rw [List.map_cons, List.map_cons, List.map_nil, join_two]
      rfl
    · intro x hx
      simp only [List.mem_cons, List.not_mem_nil, or_false] at hx
      rcases hx with rfl | rfl
      · decide
      · simpa using hexN_sp 8 w
  have h0 := (vld_parts hv).1
  apply h0
  unfold readP
  simp only [hp, List.headD_cons, word_op]
  simp [show fmt (0 : Int) = 0 from rfl]
theorem one_line {w : Nat} (hw : w < 2 ^ 32) : oneL (lineL w) = some w := by
  unfold oneL oneP
  cases hd : decOk w with
  | true =>
    have hv := decOk_vld hd
    have hl : (⟨(lineL w).toArray⟩ : ByteArray) = txt (decI w) := by unfold lineL; rw [if_pos hd]
    rw [hl]
    have hp : parseOk (txt (decI w)) := by
      unfold parseOk
      rw [read_txt hv]
      exact ⟨hv, rfl⟩
    rw [if_pos hp, read_txt hv]
    unfold decOk at hd
    have := (Bool.and_eq_true _ _ ▸ hd).2
    rw [beq_iff_eq.1 this]
  | false =>
    have hl : lineL w = [119, 111, 114, 100, 32] ++ hexN 8 w [] := by unfold lineL; rw [hd, if_neg (by decide)]
    rw [hl, if_neg (parse_word w)]
    have ht : Lib.trimPrefix ([119, 111, 114, 100, 32] ++ hexN 8 w []) [119, 111, 114, 100, 32] = hexN 8 w [] := by
      unfold Lib.trimPrefix
      rw [if_pos (by simp [Lib.hasPrefix])]
      exact List.drop_left' (by simp)
    have hn : hexN 8 w [] ≠ [] := fun h => by have := hexN_len 8 w []; rw [h] at this; simp at this
    have hu : wordU ⟨([119, 111, 114, 100, 32] ++ hexN 8 w []).toArray⟩ = .ok w := by
      show puR (Lib.trimPrefix ([119, 111, 114, 100, 32] ++ hexN 8 w []) [119, 111, 114, 100, 32]) = _
      rw [ht, puR, if_neg hn, pu_hex 8 w (by omega) (by omega)]
    rw [hu]
    simp only []
    rw [if_pos hl]
theorem line_one {x : List UInt8} {w : Nat} (h : oneL x = some w) : lineL w = x := by
  unfold oneL oneP at h
  split at h
  · rename_i hp
    injection h with h
    subst h
    have hv := hp.1
    have hd := dec_ok hv
    unfold lineL
    rw [if_pos hd, dec_enc hv, hp.2]
  · split at h
    · split at h
      · rename_i hl
        injection h with h
        subst h
        exact hl
      · cases h
    · cases h
theorem map_some_inj : ∀ {a b : List Nat}, a.map some = b.map (some : Nat → Option Nat) → a = b
  | [], [], _ => rfl
  | [], _ :: _, h => by simp at h
  | _ :: _, [], h => by simp at h
  | x :: a, y :: b, h => by
    simp only [List.map_cons, List.cons.injEq, Option.some.injEq] at h
    rw [h.1, map_some_inj h.2]
theorem disL_glue (ws : List Nat) : disL ws = glue (ws.map lineL) [] := by
  induction ws with
  | nil => rfl
  | cons w ws ih => rw [disL_cons, List.map_cons, glue_cons, ih]; simp
theorem lines_words {ws : List Nat} (h : ∀ w ∈ ws, w < 2 ^ 32) : (ws.map lineL).map oneL = ws.map some := by
  rw [List.map_map]
  exact List.map_congr_left fun w hw => one_line (h w hw)
theorem words_lines {xs : List (List UInt8)} {ws : List Nat} (h : xs.map oneL = ws.map some) : xs = ws.map lineL := by
  induction xs generalizing ws with
  | nil => cases ws with
    | nil => rfl
    | cons => simp at h
  | cons x xs ih => cases ws with
    | nil => simp at h
    | cons w ws =>
      simp only [List.map_cons, List.cons.injEq] at h
      rw [List.map_cons, line_one h.1, ← ih h.2]
/-- Every text is lines and a rest. -/
theorem unglue : ∀ s : List UInt8, ∃ xs y, s = glue xs y ∧ (∀ x ∈ xs, (10 : UInt8) ∉ x) ∧ (10 : UInt8) ∉ y
  | [] => ⟨[], [], rfl, by simp, by simp⟩
  | c :: r => by
    obtain ⟨xs, y, rfl, h1, h2⟩ := unglue r
    by_cases hc : c = 10
    · subst hc
      exact ⟨[] :: xs, y, by rw [glue_cons]; rfl, fun x hx => by
        rcases List.mem_cons.1 hx with rfl | hx
        · simp
        · exact h1 x hx, h2⟩
    · cases xs with
      | nil => exact ⟨[], c :: y, rfl, by simp, by
          rw [List.mem_cons]
          rintro (e | e)
          · exact hc e.symm
          · exact h2 e⟩
      | cons x xs => exact ⟨(c :: x) :: xs, y, by rw [glue_cons, glue_cons]; rfl, fun z hz => by
          rcases List.mem_cons.1 hz with rfl | hz
          · rw [List.mem_cons]
            rintro (e | e)
            · exact hc e.symm
            · exact h1 x List.mem_cons_self e
          · exact h1 z (List.mem_cons_of_mem _ hz), h2⟩
theorem cut_eq {x x' r r' : List UInt8} (hx : (10 : UInt8) ∉ x) (hx' : (10 : UInt8) ∉ x') (h : x ++ 10 :: r = x' ++ 10 :: r') : x = x' ∧ r = r' := by
  induction x generalizing x' with
  | nil => cases x' with
    | nil => exact ⟨rfl, by simpa using h⟩
    | cons b x' =>
      simp only [List.nil_append, List.cons_append, List.cons.injEq] at h
      exact absurd (h.1 ▸ List.mem_cons_self) hx'
  | cons a x ih => cases x' with
    | nil =>
      simp only [List.nil_append, List.cons_append, List.cons.injEq] at h
      exact absurd (h.1 ▸ List.mem_cons_self) hx
    | cons b x' =>
      simp only [List.cons_append, List.cons.injEq] at h
      obtain ⟨h1, h2⟩ := ih (fun e => hx (List.mem_cons_of_mem _ e)) (fun e => hx' (List.mem_cons_of_mem _ e)) h.2
      exact ⟨by rw [h.1, h1], h2⟩
theorem disL_inj {a b : List Nat} (ha : ∀ w ∈ a, w < 2 ^ 32) (hb : ∀ w ∈ b, w < 2 ^ 32) (h : disL a = disL b) : a = b := by
  induction a generalizing b with
  | nil => cases b with
    | nil => rfl
    | cons w b =>
      have := congrArg List.length h
      rw [disL_cons] at this
      simp [disL] at this
  | cons w a ih => cases b with
    | nil =>
      have := congrArg List.length h
      rw [disL_cons] at this
      simp [disL] at this
    | cons v b =>
      rw [disL_cons, disL_cons, List.singleton_append, List.singleton_append] at h
      obtain ⟨h1, h2⟩ := cut_eq (lineL_nl w) (lineL_nl v) h
      have e := one_line (ha w List.mem_cons_self)
      rw [h1, one_line (hb v List.mem_cons_self)] at e
      rw [Option.some.inj e, ih (fun z hz => ha z (List.mem_cons_of_mem _ hz)) (fun z hz => hb z (List.mem_cons_of_mem _ hz)) h2]
/-- asm.Assemble at the lines of words. -/
theorem asm_words (ws : List Nat) (hw : ∀ w ∈ ws, w < 2 ^ 32) (hn : ws.length ≤ 100000) (W : World) (hE : Env W) :
    Calls Tryz.prog 9 #[.string ⟨(disL ws).toArray⟩] W fun e w' => Below W.heap.size W w' ∧ ∃ (p : Option Addr) (cap : Nat), e = .returned (.tuple #[.slice p ws.length cap, .int .i64 0, .int .i64 0]) ∧ Ws w' p ws := by
  have hl := disL_len ws
  rw [disL_glue] at hl ⊢
  refine (asm_go (ws.map lineL) [] (fun x hx => ?_) (by simp) (by omega) W hE).mono ?_
  · obtain ⟨w, _, rfl⟩ := List.mem_map.1 hx
    exact lineL_nl w
  · rintro e w' ⟨hb, (⟨ws', p, cap, _, h2, rfl, h4⟩ | ⟨k, ⟨ws', hk, h2, (⟨x, h3, h4⟩ | ⟨_, h3⟩)⟩, _⟩)⟩
    · rw [lines_words hw] at h2
      obtain rfl := map_some_inj h2
      exact ⟨hb, p, cap, rfl, h4⟩
    · rw [List.getElem?_map] at h3
      obtain ⟨w, hw1, rfl⟩ := Option.map_eq_some_iff.1 h3
      rw [one_line (hw w (List.mem_of_getElem? hw1))] at h4
      cases h4
    · exact absurd rfl h3
/-- asm.Assemble at whatever text. -/
theorem asm_any (s : ByteArray) (hs : s.size < 4294967281) (W : World) (hE : Env W) :
    Calls Tryz.prog 9 #[.string s] W fun e w' => Below W.heap.size W w' ∧
      ((∃ (ws : List Nat) (p : Option Addr) (cap : Nat), (∀ w ∈ ws, w < 2 ^ 32) ∧ ws.length ≤ s.size ∧ disL ws = s.data.toList ∧ e = .returned (.tuple #[.slice p ws.length cap, .int .i64 0, .int .i64 0]) ∧ Ws w' p ws) ∨
       (∃ k : Nat, e = .returned (.tuple #[.slice none 0 0, .int .i64 2, .int .i64 (k : Int)]))) := by
  obtain ⟨xs, y, hg, h1, h2⟩ := unglue s.data.toList
  have hl : (glue xs y).length = s.size := by rw [← hg, Lib.size_eq]
  have e : s = ⟨(glue xs y).toArray⟩ := by rw [← hg]
  rw [e]
  refine (asm_go xs y h1 h2 (by omega) W hE).mono ?_
  rintro e w' ⟨hb, (⟨ws, p, cap, rfl, h3, rfl, h4⟩ | ⟨k, _, rfl⟩)⟩
  · refine ⟨hb, .inl ⟨ws, p, cap, ws_lt h3, ?_, ?_, rfl, h4⟩⟩
    · have := congrArg List.length h3
      rw [List.length_map, List.length_map] at this
      have h5 := len_glue xs []
      show ws.length ≤ (glue xs []).length
      omega
    · rw [disL_glue, ← words_lines h3]
  · exact ⟨hb, .inr ⟨k, rfl⟩⟩
end Go.Proofs.YtihnglgknncgpaaGreatDoor.Asm
