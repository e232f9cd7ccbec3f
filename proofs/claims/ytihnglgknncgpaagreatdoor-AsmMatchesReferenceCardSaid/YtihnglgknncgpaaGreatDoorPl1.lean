/- What asm.read reads of a formatted instruction. -/
import Derived.Test.YtihnglgknncgpaaGreatDoorRd4
import Derived.Test.YtihnglgknncgpaaGreatDoorFmtC
namespace Go.Proofs.YtihnglgknncgpaaGreatDoor.Asm
open Go Go.RowKit Go.Proofs.YtihnglgknncgpaaGreatDoor.PAsmEveryWordHasOneLine Go.Proofs.YtihnglgknncgpaaGreatDoorW.PrintWords Go.Proofs.YtihnglgknncgpaaGreatDoorW.PrintLast Go.Proofs.YtihnglgknncgpaaGreatDoorW.PrintMore Go.Proofs.YtihnglgknncgpaaGreatDoor.Bm Go.Proofs.YtihnglgknncgpaaGreatDoor.Isa
set_option linter.unusedVariables false
set_option linter.unusedSimpArgs false
theorem trim_cons (c : UInt8) (l : List UInt8) : Lib.trimPrefix (c :: l) [c] = l := by
  unfold Lib.trimPrefix
  rw [if_pos (by simp [Lib.hasPrefix])]
  rfl
theorem regV_tag (n : Nat) (h : n < 131072) : regV (tag 114 n) = (n : Int) := by
  show atoiV (Lib.trimPrefix (114 :: Lib.decDigits n) [114]) = _
  rw [trim_cons, atoiV, pA_dec n h]
theorem csrV_tag (n : Nat) (h : n < 131072) : csrV (tag 99 n) = (n : Int) := by
  show numV (Lib.trimPrefix (99 :: Lib.decDigits n) [99]) = _
  rw [trim_cons, numV, pI_dec n h]
theorem immV_itoa (n : Int) (h0 : -131072 ≤ n) (h1 : n < 131072) : immV ⟨(Lib.itoa n).toArray⟩ = n := by
  show numV (Lib.itoa n) = _
  rw [numV, pI_itoa n h0 h1]
theorem opTo_nm : ∀ k : Nat, k < 26 → 0 < k → opTo (nm (k : Int)) 26 = k := by decide +kernel
theorem nm_sp : ∀ k : Nat, k < 26 → (32 : UInt8) ∉ (nm (k : Int)).data.toList := by decide +kernel
theorem dec_no (n : Nat) (c : UInt8) (h : c.toNat < 48) : c ∉ Lib.decDigits n := fun hc => by
  have := dec_digit n c hc
  omega
theorem tag_sp (c : UInt8) (hc : c ≠ 32) (n : Nat) : (32 : UInt8) ∉ (tag c n).data.toList := by
  show (32 : UInt8) ∉ c :: Lib.decDigits n
  rw [List.mem_cons]
  rintro (h | h)
  · exact hc h.symm
  · exact dec_no n 32 (by decide) h
theorem itoa_no (n : Int) (c : UInt8) (h : c.toNat < 48) (h2 : c ≠ 45) : c ∉ Lib.itoa n := by
  unfold Lib.itoa
  split
  · rw [List.mem_cons]
    rintro (e | e)
    · exact h2 e
    · exact dec_no _ c h e
  · exact dec_no _ c h
theorem parts_sp {i : In} (h : vld i = true) : ∀ x ∈ parts i, (32 : UInt8) ∉ x.data.toList := by
  have hb := vld_bounds h
  obtain ⟨k, hk⟩ := Int.eq_ofNat_of_zero_le (show 0 ≤ i.op by omega)
  have hn : (32 : UInt8) ∉ (nm i.op).data.toList := by rw [hk]; exact nm_sp k (by omega)
  have t1 : ∀ n, (32 : UInt8) ∉ (tag 114 n).data.toList := tag_sp 114 (by decide)
  have t2 : ∀ n, (32 : UInt8) ∉ (tag 99 n).data.toList := tag_sp 99 (by decide)
  have t3 : (32 : UInt8) ∉ (⟨(Lib.itoa i.imm).toArray⟩ : ByteArray).data.toList := by simpa using itoa_no i.imm 32 (by decide) (by decide)
  intro x hx
  unfold parts at hx
  repeat' split at hx
  all_goals
    simp only [List.mem_cons, List.not_mem_nil, or_false] at hx
    first
      | (rcases hx with rfl | rfl | rfl | rfl <;> first | exact hn | exact t1 _ | exact t2 _ | exact t3)
      | (rcases hx with rfl | rfl | rfl <;> first | exact hn | exact t1 _ | exact t2 _ | exact t3)
      | (rcases hx with rfl | rfl <;> first | exact hn | exact t1 _ | exact t2 _ | exact t3)
      | (subst hx; exact hn)
theorem map_data_inj : ∀ {a b : List ByteArray}, a.map (fun x => x.data.toList) = b.map (fun x => x.data.toList) → a = b
  | [], [], _ => rfl
  | [], _ :: _, h => by simp at h
  | _ :: _, [], h => by simp at h
  | x :: a, y :: b, h => by
    simp only [List.map_cons, List.cons.injEq] at h
    rw [map_data_inj h.2, show x = y from ByteArray.ext (Array.ext' h.1)]
theorem pieces_join (l : List ByteArray) (hl : l ≠ []) (h : ∀ x ∈ l, (32 : UInt8) ∉ x.data.toList) : pieces ⟨(Lib.join (l.map (fun x => x.data.toList)) [32]).toArray⟩ = l := by
  cases l with
  | nil => exact absurd rfl hl
  | cons x r =>
    obtain ⟨h1, h2⟩ := split_join 32 (r.map (fun x => x.data.toList)) x.data.toList (fun z hz => by
      rcases List.mem_cons.1 hz with rfl | hz
      · exact h x List.mem_cons_self
      · obtain ⟨y, hy, rfl⟩ := List.mem_map.1 hz
        exact h y (List.mem_cons_of_mem _ hy))
    apply map_data_inj
    unfold pieces
    rw [Lib.splitB_data]
    have e : Lib.countB ⟨(Lib.join ((x :: r).map (fun x => x.data.toList)) [32]).toArray⟩ ⟨#[32]⟩ = (r.map (fun x => x.data.toList)).length := by
      show Lib.count _ [32] = _
      rw [Lib.count_one]
      exact h1
    rw [e]
    exact h2
theorem pieces_txt {i : In} (h : vld i = true) : pieces (txt i) = parts i := by
  refine pieces_join (parts i) ?_ (parts_sp h)
  unfold parts
  repeat' split
  all_goals simp
theorem read_txt {i : In} (h : vld i = true) : readP (txt i) = i := by
  have hp := pieces_txt h
  have hb := vld_bounds h
  have hm := imm_bounds h
  obtain ⟨op, rd, ra, rb, imm⟩ := i
  dsimp only at hb hm
  obtain ⟨k, rfl⟩ := Int.eq_ofNat_of_zero_le (show 0 ≤ op by omega)
  obtain ⟨d, rfl⟩ := Int.eq_ofNat_of_zero_le (show 0 ≤ rd by omega)
  obtain ⟨a, rfl⟩ := Int.eq_ofNat_of_zero_le (show 0 ≤ ra by omega)
  obtain ⟨b, rfl⟩ := Int.eq_ofNat_of_zero_le (show 0 ≤ rb by omega)
  have ho := opTo_nm k (by omega) (by omega)
  have r1 := regV_tag d (by omega)
  have r2 := regV_tag a (by omega)
  have r3 := regV_tag b (by omega)
  have c1 := immV_itoa imm hm.1 hm.2
  have hh : (parts ⟨k, d, a, b, imm⟩).headD .empty = nm k := by
    unfold parts
    repeat' split
    all_goals rfl
  unfold readP
  simp only [hp, hh, ho]
  rcases fmt_cases (k : Int) with hf | hf | hf | hf | hf | hf | hf | hf
  · exact absurd hf (vld_parts h).1
  · rw [vld_1 hf] at h
    simp [rg] at h
    simp [parts, hf, r1, r2, r3, h]
  · rw [vld_2 hf] at h
    simp [rg] at h
    simp [parts, hf, r1, r2, c1, h]
  · rw [vld_3 hf] at h
    simp [rg] at h
    simp [parts, hf, r1, c1, h]
  · rw [vld_4 hf] at h
    simp [rg] at h
    simp [parts, hf, h]
  · rw [vld_5 hf] at h
    simp [rg] at h
    obtain ⟨m, rfl⟩ := Int.eq_ofNat_of_zero_le (show 0 ≤ imm by omega)
    have c2 := csrV_tag m (by omega)
    simp [parts, hf, r1, c2, h]
  · rw [vld_6 hf] at h
    simp [rg] at h
    obtain ⟨m, rfl⟩ := Int.eq_ofNat_of_zero_le (show 0 ≤ imm by omega)
    have c2 := csrV_tag m (by omega)
    simp [parts, hf, r2, c2, h]
  · rw [vld_7 hf] at h
    simp [rg] at h
    simp [parts, hf, r2, h]
end Go.Proofs.YtihnglgknncgpaaGreatDoor.Asm
