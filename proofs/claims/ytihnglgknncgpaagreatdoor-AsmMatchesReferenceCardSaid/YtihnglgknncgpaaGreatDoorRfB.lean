/- The reference's num and words, walked. -/
import Derived.Test.YtihnglgknncgpaaGreatDoorRfA
import Derived.Maps.AppendAt
namespace Go.Proofs.YtihnglgknncgpaaGreatDoor.Asm
open Go Go.RowKit Go.Proofs.YtihnglgknncgpaaGreatDoor.PAsmEveryWordHasOneLine Go.Proofs.YtihnglgknncgpaaGreatDoorW.PrintWords Go.Proofs.YtihnglgknncgpaaGreatDoorW.PrintLast Go.Proofs.YtihnglgknncgpaaGreatDoorW.PrintMore Go.Proofs.YtihnglgknncgpaaGreatDoor.Bm Go.Proofs.YtihnglgknncgpaaGreatDoor.Isa
set_option linter.unusedVariables false
set_option linter.unusedSimpArgs false
/-! ### The reference's num -/
theorem ba_get (l : List UInt8) (k : Nat) (c : UInt8) (h : l[k]? = some c) : (⟨l.toArray⟩ : ByteArray)[k]? = some c := by
  obtain ⟨hk, rfl⟩ := List.getElem?_eq_some_iff.1 h
  rw [getElem?_pos (⟨l.toArray⟩ : ByteArray) k (show k < (⟨l.toArray⟩ : ByteArray).size from hk)]
  rfl
def numG : List UInt8 → Nat → Nat
  | [], n => n
  | c :: l, n => numG l (if 48 ≤ c.toNat ∧ c.toNat ≤ 57 then min 1000000 (10 * n + c.toNat - 48) else n)
def numR (l : List UInt8) (f : Nat) : Int := if f = 0 ∧ l.head? = some 45 then -(numG l 0 : Int) else (numG (l.drop f) 0 : Int)
theorem numG_le : ∀ (l : List UInt8) (n : Nat), n ≤ 1000000 → numG l n ≤ 1000000
  | [], _, h => h
  | c :: l, n, h => by
    unfold numG
    split
    · exact numG_le l _ (Nat.min_le_left _ _)
    · exact numG_le l n h
theorem numG_drop {l : List UInt8} {k : Nat} {c : UInt8} (h : l[k]? = some c) (n : Nat) : numG (l.drop k) n = numG (l.drop (k + 1)) (if 48 ≤ c.toNat ∧ c.toNat ≤ 57 then min 1000000 (10 * n + c.toNat - 48) else n) := by
  have hk : k < l.length := (List.getElem?_eq_some_iff.1 h).1
  have hc : l[k] = c := (List.getElem?_eq_some_iff.1 h).2
  rw [List.drop_eq_getElem_cons hk, hc]
  rfl
set_option maxRecDepth 100000 in
set_option maxHeartbeats 4000000 in
theorem num_ref (l : List UInt8) (f : Nat) (W : World) (hf : f = 0 ∨ f = 1) (hl : l.length ≤ 1000000) :
    Calls Tryz.prog 38 #[.string ⟨l.toArray⟩, .int .i64 (f : Int)] W fun e w' => e = .returned (.int .i64 (numR l f)) ∧ Below W.heap.size W w' := by
  obtain ⟨S, hS⟩ : ∃ S : ByteArray, ⟨l.toArray⟩ = S := ⟨_, rfl⟩
  have HS := Lib.hid hS
  have hsz : S.size = l.length := by rw [← hS]; exact List.size_toArray
  rw [hS]
  clear hS
  go_enter Tryz.func38, Tryz.ntmps38
  go_wp2_with fail
  go_loopw [5, 6] (fun vn vi wr => ∃ (k a : Nat), vn = .int .i64 (a : Int) ∧ vi = .int .i64 (k : Int) ∧ k ≤ l.length + 1 ∧ a ≤ 1000000 ∧ Hid (numG (l.drop k) a = numG (l.drop f) 0) ∧ Hid (Below W.heap.size W wr)) (fun _ vi _ => l.length - (intOf vi).toNat)
  case atStart => exact ⟨f, 0, rfl, rfl, by omega, by omega, Lib.hid rfl, Lib.hid (by repeat (first | exact Below.refl _ _ | refine Below.drew ?_ | refine bdrew ?_ _))⟩
  case round =>
    obtain ⟨k, a, rfl, rfl, hk, ha, hn, hw⟩ := hrel
    by_cases hkn : k < l.length
    · obtain ⟨x, hx⟩ : ∃ x, l[k]? = some x := ⟨l[k], List.getElem?_eq_getElem hkn⟩
      have hlt : k < S.size := by omega
      have hg : S[k]'hlt = x := by
        have h1 := ba_get _ _ _ hx
        rw [HS.out] at h1
        exact Option.some.inj ((getElem?_pos S k hlt).symm.trans h1)
      have hd := Lib.hid (numG_drop hx a)
      clear hx
      have q1 : (k : Int) < (l.length : Int) := by omega
      have hx256 : x.toNat < 256 := x.toNat_lt
      by_cases h48 : 48 ≤ x.toNat
      · by_cases h57 : x.toNat ≤ 57
        · rw [if_pos ⟨h48, h57⟩] at hd
          have p1 : (48 : Int) ≤ (x.toNat : Int) := by omega
          have p2 : (x.toNat : Int) ≤ 57 := by omega
          go_wp2
          exact ⟨⟨k + 1, min 1000000 (10 * a + x.toNat - 48), by congr 1; omega, by congr 1, by omega, Nat.min_le_left _ _, Lib.hid (hd.out.symm.trans hn.out), hw⟩, by simp [intOf]; omega⟩
        · rw [if_neg (by omega)] at hd
          have p1 : (48 : Int) ≤ (x.toNat : Int) := by omega
          have p2 : ¬ (x.toNat : Int) ≤ 57 := by omega
          go_wp2
          exact ⟨⟨k + 1, a, rfl, by congr 1, by omega, ha, Lib.hid (hd.out.symm.trans hn.out), hw⟩, by simp [intOf]; omega⟩
      · rw [if_neg (by omega)] at hd
        have p1 : ¬ (48 : Int) ≤ (x.toNat : Int) := by omega
        go_wp2
        exact ⟨⟨k + 1, a, rfl, by congr 1, by omega, ha, Lib.hid (hd.out.symm.trans hn.out), hw⟩, by simp [intOf]; omega⟩
    · have ha' : a = numG (l.drop f) 0 := by
        rw [← hn.out, List.drop_eq_nil_of_le (by omega)]
        rfl
      have q0 : ¬ (k : Int) < (l.length : Int) := by omega
      rcases hf with rfl | rfl
      · by_cases h0 : 0 < l.length
        · obtain ⟨x, hx⟩ : ∃ x, l[0]? = some x := ⟨l[0], List.getElem?_eq_getElem h0⟩
          have hlt : 0 < S.size := by omega
          have hg : S[0]'hlt = x := by
            have h1 := ba_get _ _ _ hx
            rw [HS.out] at h1
            exact Option.some.inj ((getElem?_pos S 0 hlt).symm.trans h1)
          have hh : l.head? = some x := by rw [List.head?_eq_getElem?, hx]
          have q1 : (0 : Int) < (l.length : Int) := by omega
          by_cases h45 : x = 45
          · subst h45
            have hr : numR l 0 = -(a : Int) := by unfold numR; rw [if_pos ⟨rfl, hh⟩, ha']; rfl
            have e1 : IntKind.i64.wrap (-(a : Int)) = -(a : Int) := wr64 (by omega) (by omega)
            have HR := Lib.hid hr
            clear hx hh ha' hr
            go_wp2
            go_ret
            exact ⟨by rw [HR.out]; rfl, hw.out⟩
          · have hr : numR l 0 = (a : Int) := by unfold numR; rw [if_neg (by rw [hh]; simpa using h45), ha']
            have hxi : ((x.toNat : Int) == 45) = false := by
              rw [beq_eq_false_iff_ne]
              intro h
              apply h45
              apply UInt8.toNat_inj.1
              show x.toNat = 45
              omega
            have HR := Lib.hid hr
            clear hx hh ha' hr h45
            go_wp2
            go_ret
            exact ⟨by rw [HR.out]; rfl, hw.out⟩
        · have hnil : l = [] := List.length_eq_zero_iff.1 (by omega)
          have hr : numR l 0 = (a : Int) := by unfold numR; rw [if_neg (by rw [hnil]; simp), ha']
          have q1 : ¬ (0 : Int) < (l.length : Int) := by omega
          have HR := Lib.hid hr
          clear ha' hr hnil
          go_wp2
          go_ret
          exact ⟨by rw [HR.out]; rfl, hw.out⟩
      · have hr : numR l 1 = (a : Int) := by unfold numR; rw [if_neg (by simp), ha']
        have HR := Lib.hid hr
        clear ha' hr
        go_wp2
        go_ret
        exact ⟨by rw [HR.out]; rfl, hw.out⟩
/-! ### The reference's words -/
/-- The fields of a text, parted at spaces. -/
def fieldsA : List UInt8 → List UInt8 → List (List UInt8)
  | cur, [] => [cur]
  | cur, c :: l => if c = 32 then cur :: fieldsA [] l else fieldsA (cur ++ [c]) l
def mkB (l : List UInt8) : ByteArray := ⟨l.toArray⟩
def wordsB (l : List UInt8) : List ByteArray := (fieldsA [] l).map mkB
theorem ext_list (l : List UInt8) (p k : Nat) : (⟨l.toArray⟩ : ByteArray).extract p k = mkB ((l.drop p).take (k - p)) := by
  unfold mkB
  apply ByteArray.ext
  rw [ByteArray.data_extract]
  apply Array.ext'
  simp [List.drop_take]
theorem fieldsA_skip {l : List UInt8} {p k : Nat} {c : UInt8} (hp : p ≤ k) (h : l[k]? = some c) (hc : c ≠ 32) : fieldsA ((l.drop p).take (k - p)) (l.drop k) = fieldsA ((l.drop p).take (k + 1 - p)) (l.drop (k + 1)) := by
  have hk : k < l.length := (List.getElem?_eq_some_iff.1 h).1
  have hc' : l[k] = c := (List.getElem?_eq_some_iff.1 h).2
  have e : k + 1 - p = (k - p) + 1 := by omega
  rw [List.drop_eq_getElem_cons hk, hc', e, List.take_add_one]
  have : (l.drop p)[k - p]? = some c := by rw [List.getElem?_drop, show p + (k - p) = k by omega, h]
  rw [this]
  rw [fieldsA, if_neg hc]
  rfl
theorem fieldsA_cut {l : List UInt8} {k : Nat} (cur : List UInt8) (h : l[k]? = some 32) : fieldsA cur (l.drop k) = cur :: fieldsA [] (l.drop (k + 1)) := by
  have hk : k < l.length := (List.getElem?_eq_some_iff.1 h).1
  have hc' : l[k] = 32 := (List.getElem?_eq_some_iff.1 h).2
  rw [List.drop_eq_getElem_cons hk, hc']
  simp [fieldsA]
set_option maxRecDepth 100000 in
set_option maxHeartbeats 4000000 in
theorem words_ref (l : List UInt8) (W : World) (hl : l.length ≤ 1000000) :
    Calls Tryz.prog 37 #[.string ⟨l.toArray⟩] W fun e w' => (∃ g cap, e = .returned (.slice (some ⟨g, 0, none⟩) ((wordsB l).length + 4) cap) ∧ g < w'.heap.size ∧ ∀ j x, (wordsB l ++ [.empty, .empty, .empty, .empty])[j]? = some x → w'.cell? ⟨g, j, none⟩ = some (.string x)) ∧ Below W.heap.size W w' := by
  obtain ⟨S, hS⟩ : ∃ S : ByteArray, ⟨l.toArray⟩ = S := ⟨_, rfl⟩
  have HS := Lib.hid hS
  have hsz : S.size = l.length := by rw [← hS]; exact List.size_toArray
  rw [hS]
  clear hS
  obtain ⟨n, hnl⟩ : ∃ n, l.length = n := ⟨_, rfl⟩
  rw [hnl] at hsz hl
  have HN := Lib.hid hnl
  clear hnl
  obtain ⟨i0x, hi, hz0, hz1, hz2⟩ := info_parts info9
  obtain ⟨all, hall⟩ : ∃ all, wordsB l = all := ⟨_, rfl⟩
  have HA := Lib.hid hall
  rw [hall]
  clear hall
  go_enter Tryz.func37, Tryz.ntmps37
  go_wp2_with fail
  go_loopw [3, 4, 5] (fun vo va vi wr => ∃ (k p : Nat) (done : List ByteArray), va = .int .i64 (p : Int) ∧ vi = .int .i64 (k : Int) ∧ p ≤ k ∧ k ≤ n + 1 ∧ done.length ≤ k ∧ wr.ownsRow W.heap.size 9 1 vo done.length (done.map Value.string) ∧ Hid ((k ≤ n → done ++ (fieldsA ((l.drop p).take (k - p)) (l.drop k)).map mkB = all) ∧ (k = n + 1 → done = all)) ∧ Hid (Below W.heap.size W wr)) (fun _ _ vi _ => n + 1 - (intOf vi).toNat)
  case atStart => exact ⟨0, 0, [], rfl, rfl, by omega, by omega, by simp, World.ownsRow_nil _ _ _ _, Lib.hid ⟨fun _ => HA.out, fun h => by omega⟩, Lib.hid (by repeat (first | exact Below.refl _ _ | refine Below.drew ?_ | refine bdrew ?_ _))⟩
  case round =>
    obtain ⟨k, p, done, rfl, rfl, hpk, hk, hdl, hown, hn, hw⟩ := hrel
    by_cases hkn : k ≤ n
    · have q1 : (k : Int) ≤ (n : Int) := by omega
      have hex := Lib.hid (ext_list l p k)
      rw [HS.out] at hex
      have hbase : W.heap.size ≤ wr.heap.size := hw.out.size
      have hl1 : ∀ x : ByteArray, (done ++ [x]).length = done.length + 1 := fun x => by simp
      have hgo : ∀ (v' : Value) (w' : World), (k = n ∨ l[k]? = some 32) → w'.ownsRow W.heap.size 9 1 v' (done.length + 1) (done.map Value.string ++ [Value.string (S.extract p k)]) → Below W.heap.size W w' →
          ∃ (k' p' : Nat) (done' : List ByteArray), (Value.int .i64 ((k : Int) + 1)) = .int .i64 (p' : Int) ∧ (Value.int .i64 ((k : Int) + 1)) = .int .i64 (k' : Int) ∧ p' ≤ k' ∧ k' ≤ n + 1 ∧ done'.length ≤ k' ∧ w'.ownsRow W.heap.size 9 1 v' done'.length (done'.map Value.string) ∧ Hid ((k' ≤ n → done' ++ (fieldsA ((l.drop p').take (k' - p')) (l.drop k')).map mkB = all) ∧ (k' = n + 1 → done' = all)) ∧ Hid (Below W.heap.size W w') := by
        intro v' w' hc h1 h2
        refine ⟨k + 1, k + 1, done ++ [S.extract p k], rfl, rfl, Nat.le_refl _, by omega, by simp; omega, by rw [hl1, List.map_append]; exact h1, Lib.hid ⟨fun hle => ?_, fun he => ?_⟩, Lib.hid h2⟩
        · have hc' : l[k]? = some 32 := hc.resolve_left (by omega)
          have h3 := hn.out.1 hkn
          rw [fieldsA_cut _ hc', List.map_cons, ← hex.out] at h3
          rw [Nat.sub_self, List.take_zero, List.append_assoc]
          exact h3
        · have h3 := hn.out.1 hkn
          have he' : k = n := by omega
          rw [List.drop_eq_nil_of_le (show l.length ≤ k by rw [HN.out]; omega), fieldsA, List.map_cons, List.map_nil, ← hex.out] at h3
          exact h3
      have HG := Lib.hid hgo
      clear hgo
      by_cases hke : k = n
      · subst hke
        have HG1 := Lib.hid (fun v' w' => HG.out v' w' (.inl rfl))
        go_wp2_with (first
          | (at_builtin; refine wpList_append_own _ rfl _ _ 62 rfl W.heap.size 9 i0x (.string ByteArray.empty) 1 16 Tryz.underlying62 hi hz0 hz1 hz2 rfl (by decide) _ _ _ rfl (hown.alloc _) ⟨wr.heap.size, 0, none⟩ 1 1 [.string (S.extract p k)] rfl rfl (cells_new3 wr _ 9) (fun x hx => by simp at hx; subst hx; rfl) (by unfold maxLen; omega) (by omega) (by simp; omega) ?_; intro v' w3 hown' hgrow hnil))
        have hb3 : Below W.heap.size W w3 := Below.grown (hw.out.alloc hbase _) hgrow (by simp; omega) (fun j hj => (hown.lt _ hj).1)
        exact ⟨HG1.out v' w3 hown' hb3, by simp [intOf]⟩
      · have hkl : k < n := by omega
        obtain ⟨x, hx⟩ : ∃ x, l[k]? = some x := ⟨l[k]'(by rw [HN.out]; exact hkl), List.getElem?_eq_getElem _⟩
        have hlt : k < S.size := by omega
        have hg : S[k]'hlt = x := by
          have h1 := ba_get _ _ _ hx
          rw [HS.out] at h1
          exact Option.some.inj ((getElem?_pos S k hlt).symm.trans h1)
        have q2 : ¬ (k : Int) = (n : Int) := by omega
        by_cases hx32 : x = 32
        · subst hx32
          have HG1 := Lib.hid (fun v' w' => HG.out v' w' (.inr hx))
          clear hx
          go_wp2_with (first
            | (at_builtin; refine wpList_append_own _ rfl _ _ 62 rfl W.heap.size 9 i0x (.string ByteArray.empty) 1 16 Tryz.underlying62 hi hz0 hz1 hz2 rfl (by decide) _ _ _ rfl (hown.alloc _) ⟨wr.heap.size, 0, none⟩ 1 1 [.string (S.extract p k)] rfl rfl (cells_new3 wr _ 9) (fun x hx => by simp at hx; subst hx; rfl) (by unfold maxLen; omega) (by omega) (by simp; omega) ?_; intro v' w3 hown' hgrow hnil))
          have hb3 : Below W.heap.size W w3 := Below.grown (hw.out.alloc hbase _) hgrow (by simp; omega) (fun j hj => (hown.lt _ hj).1)
          exact ⟨HG1.out v' w3 hown' hb3, by simp [intOf]; omega⟩
        · have hxi : ((x.toNat : Int) == 32) = false := by
            rw [beq_eq_false_iff_ne]
            intro h
            apply hx32
            apply UInt8.toNat_inj.1
            show x.toNat = 32
            omega
          have hsk := Lib.hid (fieldsA_skip hpk hx hx32)
          clear hx hx32 HG
          go_wp2
          exact ⟨⟨k + 1, p, done, rfl, by congr 1, by omega, by omega, by omega, hown, Lib.hid ⟨fun _ => by rw [← hsk.out]; exact hn.out.1 (by omega), fun h => by omega⟩, hw⟩, by simp [intOf]; omega⟩
    · obtain rfl : k = n + 1 := by omega
      obtain rfl : done = all := hn.out.2 rfl
      clear hn
      have q1 : ¬ ((n + 1 : Nat) : Int) ≤ (n : Int) := by omega
      have hbase : W.heap.size ≤ wr.heap.size := hw.out.size
      go_wp2_with (first
        | (at_builtin; refine wpList_append_own _ rfl _ _ 62 rfl W.heap.size 9 i0x (.string ByteArray.empty) 1 16 Tryz.underlying62 hi hz0 hz1 hz2 rfl (by decide) _ _ _ rfl (hown.alloc _) ⟨wr.heap.size, 0, none⟩ 4 4 [.string ⟨#[]⟩, .string ⟨#[]⟩, .string ⟨#[]⟩, .string ⟨#[]⟩] rfl rfl (cells_new3 wr _ 9) (fun x hx => by simp at hx; subst hx; rfl) (by unfold maxLen; omega) (by omega) (by simp; omega) ?_; intro v' w3 hown' hgrow hnil))
      have hb3 : Below W.heap.size W w3 := Below.grown (hw.out.alloc hbase _) hgrow (by simp; omega) (fun j hj => (hown.lt _ hj).1)
      have e4 : done.map Value.string ++ [.string ⟨#[]⟩, .string ⟨#[]⟩, .string ⟨#[]⟩, .string ⟨#[]⟩] = (done ++ [ByteArray.empty, .empty, .empty, .empty]).map Value.string := by rw [List.map_append]; rfl
      rw [e4] at hown'
      obtain ⟨g, cap, rfl, _, hg, hcell⟩ := strs_of_row (by simp) (by omega) hown'
      go_ret
      exact ⟨⟨g, ⟨cap, rfl⟩, hg, fun j x hj => by rw [← Nat.zero_add j]; exact hcell j x hj⟩, hb3⟩
end Go.Proofs.YtihnglgknncgpaaGreatDoor.Asm
