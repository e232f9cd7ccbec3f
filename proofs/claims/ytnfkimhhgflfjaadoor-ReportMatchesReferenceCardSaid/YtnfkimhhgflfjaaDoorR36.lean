/- gaolerref28.words, walked. -/
import Derived.Test.YtnfkimhhgflfjaaDoorR6
import Derived.Laws.OwnMore
namespace Go.Proofs.YtnfkimhhgflfjaaDoor.Rep
open Go Go.RowKit Go.Shelf
set_option linter.unusedVariables false
set_option linter.unusedSimpArgs false
/-! ### gaolerref28.words, walked -/
/-- The lines of a text, each parted at its blanks; what stands behind the last line's end is left out. -/
def wordsA : List UInt8 → List (List UInt8) → List UInt8 → List (List (List UInt8))
  | _, _, [] => []
  | f, cur, c :: r => if c = 10 then (cur ++ [f]) :: wordsA [] [] r else if c = 32 then wordsA [] (cur ++ [f]) r else wordsA (f ++ [c]) cur r
def wordsG (l : List UInt8) : List (List (List UInt8)) := wordsA [] [] l
def strV (x : List UInt8) : Value := .string ⟨x.toArray⟩
theorem ext_list (l : List UInt8) (p k : Nat) : (⟨l.toArray⟩ : ByteArray).extract p k = ⟨((l.drop p).take (k - p)).toArray⟩ := by
  apply ByteArray.ext
  rw [ByteArray.data_extract]
  apply Array.ext'
  simp [List.drop_take]
theorem drop_get {l : List UInt8} {k : Nat} {c : UInt8} (h : l[k]? = some c) : l.drop k = c :: l.drop (k + 1) := by
  have hk : k < l.length := (List.getElem?_eq_some_iff.1 h).1
  have hc : l[k] = c := (List.getElem?_eq_some_iff.1 h).2
  rw [List.drop_eq_getElem_cons hk, hc]
theorem wordsA_skip {l : List UInt8} {p k : Nat} {c : UInt8} (cur : List (List UInt8)) (hp : p ≤ k) (h : l[k]? = some c) (h1 : c ≠ 10) (h2 : c ≠ 32) : wordsA ((l.drop p).take (k - p)) cur (l.drop k) = wordsA ((l.drop p).take (k + 1 - p)) cur (l.drop (k + 1)) := by
  have e : k + 1 - p = (k - p) + 1 := by omega
  rw [drop_get h, e, List.take_add_one]
  have : (l.drop p)[k - p]? = some c := by rw [List.getElem?_drop, show p + (k - p) = k by omega, h]
  rw [this, wordsA, if_neg h1, if_neg h2]
  rfl
theorem wordsA_gap {l : List UInt8} {k : Nat} (f : List UInt8) (cur : List (List UInt8)) (h : l[k]? = some 32) : wordsA f cur (l.drop k) = wordsA [] (cur ++ [f]) (l.drop (k + 1)) := by
  rw [drop_get h, wordsA, if_neg (by decide), if_pos rfl]
theorem wordsA_eol {l : List UInt8} {k : Nat} (f : List UInt8) (cur : List (List UInt8)) (h : l[k]? = some 10) : wordsA f cur (l.drop k) = (cur ++ [f]) :: wordsA [] [] (l.drop (k + 1)) := by
  rw [drop_get h, wordsA, if_pos rfl]
/-- A slice of strings lies there, in a block of which N holds. -/
def StrsN (W : World) (N : Nat → Prop) (u : Value) (l : List (List UInt8)) : Prop := ∃ p c, u = .slice p l.length c ∧ ∀ (j : Nat) x, l[j]? = some x → ∃ g, p = some ⟨g, 0, none⟩ ∧ N g ∧ W.cell? ⟨g, j, none⟩ = some (strV x)
theorem StrsN.kept {W W' : World} {N N' : Nat → Prop} {u : Value} {l : List (List UInt8)} (h : StrsN W N u l) (hk : ∀ g, N g → g < W.heap.size → N' g ∧ W'.heap[g]? = W.heap[g]?) : StrsN W' N' u l := by
  obtain ⟨p, c, hu, hc⟩ := h
  refine ⟨p, c, hu, fun j x hj => ?_⟩
  obtain ⟨g, h1, h2, h3⟩ := hc j x hj
  obtain ⟨h4, h5⟩ := hk g h2 (World.block_lt_of_cell? W _ h3)
  exact ⟨g, h1, h4, (World.cell?_of_block (a := ⟨g, j, none⟩) h5).trans h3⟩
/-- The lines lie there, in blocks from B on. -/
def Lns (W : World) (B : Nat) (v : Value) (ls : List (List (List UInt8))) : Prop := ∃ p c, v = .slice p ls.length c ∧ ∀ (k : Nat) l, ls[k]? = some l → ∃ g u, p = some ⟨g, 0, none⟩ ∧ B ≤ g ∧ W.cell? ⟨g, k, none⟩ = some u ∧ StrsN W (fun g => B ≤ g) u l
/-- What stands before a round of words: the lines so far, the fields so far. -/
structure WS (B : Nat) (W : World) (vo vl : Value) (done : List (List (List UInt8))) (cur : List (List UInt8)) : Prop where
  ro : ∃ ds, W.ownsRow B 63 1 vo done.length ds ∧ ∀ (j : Nat) l, done[j]? = some l → ∃ u, ds[j]? = some u ∧ StrsN W (fun g => B ≤ g ∧ vo.ownBlock ≠ some g ∧ vl.ownBlock ≠ some g) u l
  rl : W.ownsRow B 9 1 vl cur.length (cur.map strV)
  ne : ∀ g, vo.ownBlock = some g → vl.ownBlock ≠ some g
theorem WS.start (B : Nat) (W : World) : WS B W (.slice none 0 0) (.slice none 0 0) [] [] :=
  ⟨⟨[], World.ownsRow_nil _ _ _ _, fun j l h => by simp at h⟩, World.ownsRow_nil _ _ _ _, fun g h => by cases h⟩
/-- A field is appended. -/
theorem WS.push {B : Nat} {W W2 w3 : World} {vo vl : Value} {done : List (List (List UInt8))} {cur : List (List UInt8)} (h : WS B W vo vl done cur) (hb : Below W.heap.size W W2) (x : List UInt8) {g cap : Nat}
    (hown : w3.ownsRow B 9 1 (.slice (some ⟨g, 0, none⟩) (cur.length + 1) cap) (cur.length + 1) (cur.map strV ++ [strV x])) (hgrow : W2.grownBy w3 vl.ownBlock) (hat : vl.ownBlock = some g ∨ g = W2.heap.size) :
    WS B w3 vo (.slice (some ⟨g, 0, none⟩) (cur.length + 1) cap) done (cur ++ [x]) := by
  obtain ⟨ds, h1, h2⟩ := h.ro
  have hk : ∀ k, k < W.heap.size → vl.ownBlock ≠ some k → w3.heap[k]? = W.heap[k]? := fun k h3 h4 => (hgrow.block k (Nat.lt_of_lt_of_le h3 hb.size) (fun e => h4 e.symm)).trans (hb.block k h3)
  have hg : ∀ k, k < W.heap.size → vl.ownBlock ≠ some k → k ≠ g := fun k h3 h4 e => by
    rcases hat with e1 | e1
    · exact h4 (e ▸ e1)
    · have := hb.size; omega
  refine ⟨⟨ds, ?_, fun j l hj => ?_⟩, ?_, fun k hkk => ?_⟩
  · have hW2 : W2.ownsRow B 63 1 vo done.length ds := h1.kept (grown_of_below hb) (by cases vo.ownBlock <;> simp)
    refine hW2.kept hgrow ?_
    cases hvo : vo.ownBlock with
    | none => exact .inl rfl
    | some k => exact .inr (fun e => h.ne k hvo e.symm)
  · obtain ⟨u, h3, h4⟩ := h2 j l hj
    exact ⟨u, h3, h4.kept (fun k hN hlt => ⟨⟨hN.1, hN.2.1, by simpa [Value.ownBlock] using (fun e => hg k hlt hN.2.2 e.symm)⟩, hk k hlt hN.2.2⟩)⟩
  · have e : (cur ++ [x]).length = cur.length + 1 := by simp
    rw [e, List.map_append]
    exact hown
  · have := hg k (h1.lt k hkk).2 (h.ne k hkk)
    simpa [Value.ownBlock] using (fun e => this e.symm)
/-- A line is appended. -/
theorem WS.line {B : Nat} {W W2 w3 : World} {vo vl : Value} {done : List (List (List UInt8))} {cur : List (List UInt8)} (h : WS B W vo vl done cur) (hb : Below W.heap.size W W2) {ds : List Value}
    (h2 : ∀ (j : Nat) l, done[j]? = some l → ∃ u, ds[j]? = some u ∧ StrsN W (fun g => B ≤ g ∧ vo.ownBlock ≠ some g ∧ vl.ownBlock ≠ some g) u l) (hdl : ds.length = done.length) {g cap : Nat}
    (hown : w3.ownsRow B 63 1 (.slice (some ⟨g, 0, none⟩) (done.length + 1) cap) (done.length + 1) (ds ++ [vl])) (hgrow : W2.grownBy w3 vo.ownBlock) (hat : vo.ownBlock = some g ∨ g = W2.heap.size) :
    WS B w3 (.slice (some ⟨g, 0, none⟩) (done.length + 1) cap) (.slice none 0 0) (done ++ [cur]) [] := by
  have hk : ∀ k, k < W.heap.size → vo.ownBlock ≠ some k → w3.heap[k]? = W.heap[k]? := fun k h3 h4 => (hgrow.block k (Nat.lt_of_lt_of_le h3 hb.size) (fun e => h4 e.symm)).trans (hb.block k h3)
  have hg : ∀ k, k < W.heap.size → vo.ownBlock ≠ some k → k ≠ g := fun k h3 h4 e => by
    rcases hat with e1 | e1
    · exact h4 (e ▸ e1)
    · have := hb.size; omega
  have e : (done ++ [cur]).length = done.length + 1 := by simp
  refine ⟨⟨ds ++ [vl], by rw [e]; exact hown, fun j l hj => ?_⟩, World.ownsRow_nil _ _ _ _, fun k _ => by simp [Value.ownBlock]⟩
  by_cases hjd : j < done.length
  · rw [List.getElem?_append_left hjd] at hj
    obtain ⟨u, h3, h4⟩ := h2 j l hj
    exact ⟨u, by rw [List.getElem?_append_left (by omega)]; exact h3, h4.kept (fun k hN hlt => ⟨⟨hN.1, by simpa [Value.ownBlock] using (fun e => hg k hlt hN.2.1 e.symm), by simp [Value.ownBlock]⟩, hk k hlt hN.2.1⟩)⟩
  · have hj' : j = done.length := by
      have := (List.getElem?_eq_some_iff.1 hj).1
      rw [e] at this
      omega
    subst hj'
    rw [List.getElem?_append_right (Nat.le_refl _), Nat.sub_self] at hj
    cases hj
    refine ⟨vl, by rw [List.getElem?_append_right (by omega), hdl, Nat.sub_self]; rfl, ?_⟩
    obtain ⟨a, c, hvl⟩ := slice_of_own h.rl
    subst hvl
    refine ⟨a, c, rfl, fun j x hj => ?_⟩
    have hpos : 0 < cur.length := Nat.lt_of_le_of_lt (Nat.zero_le j) (List.getElem?_eq_some_iff.1 hj).1
    rcases h.rl.2 with ⟨_, h0⟩ | ⟨b, cap', cur', he, hbB, _⟩
    · omega
    · cases he
      have hc := h.rl.cellAt j (by have := (List.getElem?_eq_some_iff.1 hj).1; omega)
      rw [List.getElem?_map, hj, Option.map_some] at hc
      have hlt : b < W.heap.size := World.block_lt_of_cell? W _ hc
      have hvo : vo.ownBlock ≠ some b := fun e => h.ne b e rfl
      exact ⟨b, rfl, ⟨hbB, by simpa [Value.ownBlock] using (fun e => hg b hlt hvo e.symm), by simp [Value.ownBlock]⟩, (World.cell?_of_block (a := ⟨b, j, none⟩) (hk b hlt hvo)).trans hc⟩
theorem WS.done {B : Nat} {W : World} {vo vl : Value} {done : List (List (List UInt8))} {cur : List (List UInt8)} (h : WS B W vo vl done cur) : Lns W B vo done := by
  obtain ⟨ds, h1, h2⟩ := h.ro
  obtain ⟨a, c, hvo⟩ := slice_of_own h1
  subst hvo
  refine ⟨a, c, rfl, fun k l hk => ?_⟩
  obtain ⟨u, h3, h4⟩ := h2 k l hk
  have hkl := (List.getElem?_eq_some_iff.1 hk).1
  rcases h1.2 with ⟨_, h0⟩ | ⟨b, cap', cur', he, hbB, _⟩
  · omega
  · cases he
    have hc := h1.cellAt k (by omega)
    rw [h3] at hc
    exact ⟨b, u, rfl, hbB, hc, h4.kept (fun g hN _ => ⟨hN.1, rfl⟩)⟩
theorem info9 : (Tryd.prog.info? 9).map (fun i => (i.zero, i.size, i.bytes)) = some (some (.string ByteArray.empty), 1, 16) := by kernel_rfl
theorem info63 : (Tryd.prog.info? 63).map (fun i => (i.zero, i.size, i.bytes)) = some (some (.slice none 0 0), 1, 24) := by kernel_rfl
set_option maxRecDepth 100000 in
set_option maxHeartbeats 8000000 in
/-- gaolerref28.words. -/
theorem words_any (l : List UInt8) (W : World) (hl : l.length ≤ 1000000) :
    Calls Tryd.prog 28 #[.string ⟨l.toArray⟩] W fun e w' => (∃ v, e = .returned v ∧ Lns w' W.heap.size v (wordsG l)) ∧ Below W.heap.size W w' := by
  obtain ⟨S, hS⟩ : ∃ S : ByteArray, ⟨l.toArray⟩ = S := ⟨_, rfl⟩
  have HS := Lib.hid hS
  have hsz : S.size = l.length := by rw [← hS]; exact List.size_toArray
  rw [hS]
  clear hS
  obtain ⟨n, hnl⟩ : ∃ n, l.length = n := ⟨_, rfl⟩
  rw [hnl] at hsz hl
  have HN := Lib.hid hnl
  clear hnl
  obtain ⟨i9, hi9, hz9, hs9, hb9⟩ := info_parts info9
  obtain ⟨i63, hi63, hz63, hs63, hb63⟩ := info_parts info63
  obtain ⟨all, hall⟩ : ∃ all, wordsG l = all := ⟨_, rfl⟩
  have HA := Lib.hid hall
  rw [hall]
  clear hall
  go_enter Tryd.func28, Tryd.ntmps28
  go_wp2_with fail
  go_loopw [3, 4, 5, 6] (fun vo vl va vi wr => ∃ (k p : Nat) (done : List (List (List UInt8))) (cur : List (List UInt8)), va = .int .i64 (p : Int) ∧ vi = .int .i64 (k : Int) ∧ p ≤ k ∧ k ≤ n ∧ done.length ≤ k ∧ cur.length ≤ k ∧ Hid (WS W.heap.size wr vo vl done cur) ∧ Hid (done ++ wordsA ((l.drop p).take (k - p)) cur (l.drop k) = all) ∧ Hid (Below W.heap.size W wr)) (fun _ _ _ vi _ => n - (intOf vi).toNat)
  case atStart => exact ⟨0, 0, [], [], rfl, rfl, by omega, by omega, by simp, by simp, Lib.hid (WS.start _ _), Lib.hid HA.out, Lib.hid (by repeat (first | exact Below.refl _ _ | refine Below.drew ?_ | refine bdrew ?_ _))⟩
  case round =>
    obtain ⟨k, p, done, cur, rfl, rfl, hpk, hk, hdl, hcl, hws, hn, hw⟩ := hrel
    by_cases hkn : k < n
    · have q1 : (k : Int) < (n : Int) := by omega
      have q0 : (0 : Int) ≤ (k : Int) := by omega
      have hex := Lib.hid (ext_list l p k)
      rw [HS.out] at hex
      have hbase : W.heap.size ≤ wr.heap.size := hw.out.size
      have hrl := hws.out.rl
      obtain ⟨x, hx⟩ : ∃ x, l[k]? = some x := ⟨l[k]'(by rw [HN.out]; exact hkn), List.getElem?_eq_getElem _⟩
      have hlt : k < S.size := by omega
      have hg : S[k]'hlt = x := by
        have h1 := ba_get _ _ _ hx
        rw [HS.out] at h1
        exact Option.some.inj ((getElem?_pos S k hlt).symm.trans h1)
      have q5 : (p : Int) ≤ (k : Int) := by omega
      have q6 : (0 : Int) ≤ (p : Int) := by omega
      have q7 : (k : Int) ≤ (n : Int) := by omega
      obtain ⟨f, hf⟩ : ∃ f, (l.drop p).take (k - p) = f := ⟨_, rfl⟩
      rw [hf] at hex hn
      have hcell : Hid ((Value.string (S.extract p k)) = strV f) := Lib.hid (by rw [hex.out]; rfl)
      have m1 : cur.length + 1 ≤ maxLen := by unfold maxLen; omega
      have m2 : done.length + 1 ≤ maxLen := by unfold maxLen; omega
      by_cases hx10 : x = 10
      · subst hx10
        have hst := Lib.hid ((congrArg (done ++ ·) (wordsA_eol f cur hx)).symm.trans hn.out)
        clear hx hn hf
        go_wp2_with (first
          | (at_builtin; refine wpList_append_lies _ rfl _ _ 63 rfl W.heap.size 9 i9 (.string ByteArray.empty) 1 16 Tryd.underlying63 hi9 hz9 hs9 hb9 rfl (by decide) _ _ _ rfl (hrl.alloc _) ⟨wr.heap.size, 0, none⟩ 1 1 [.string (S.extract p k)] rfl rfl (cell_one_new wr _ 9) (fun x hx => by simp at hx; subst hx; rfl) (by decide) m1 (by omega) (by simp; omega) _ rfl ?_
             intro g cap w3 hown hgrow hat hglt
             rw [hcell.out] at hown
             have WS1 := Lib.hid (hws.out.push ((Below.refl _ wr).alloc (Nat.le_refl _) _) f hown hgrow hat)
             have HB3 : Hid (Below W.heap.size W w3) := Lib.hid (Below.grown (hw.out.alloc hbase _) hgrow (by simp; omega) (fun j hj => (hrl.lt _ hj).1))
             have hbase3 := HB3.out.size
             obtain ⟨ds, hds, hdd⟩ := WS1.out.ro
             have HDD := Lib.hid hdd
             have hdsl : Hid (ds.length = done.length) := Lib.hid (by have := hds.1; omega)
             clear hown hgrow hat hglt hdd)
          | (at_builtin; refine wpList_append_lies _ rfl _ _ 72 rfl W.heap.size 63 i63 (.slice none 0 0) 1 24 Tryd.underlying72 hi63 hz63 hs63 hb63 rfl (by decide) _ _ _ rfl (hds.alloc _) ⟨w3.heap.size, 0, none⟩ 1 1 [.slice (some ⟨g, 0, none⟩) (cur.length + 1) cap] rfl rfl (cell_one_new w3 _ 63) (fun x hx => by simp at hx; subst hx; rfl) (by decide) m2 (by omega) (by simp; omega) _ rfl ?_
             intro g2 cap2 w5 hown hgrow hat hglt
             have HB5 : Hid (Below W.heap.size W w5) := Lib.hid (Below.grown (HB3.out.alloc hbase3 _) hgrow (by simp; omega) (fun j hj => (hds.lt _ hj).1))
             have WS2 := Lib.hid (WS1.out.line ((Below.refl _ w3).alloc (Nat.le_refl _) _) HDD.out hdsl.out hown hgrow hat)
             clear hown hgrow hat hglt))
        go_roundw
        case rel => exact ⟨k + 1, k + 1, done ++ [cur ++ [f]], [], by go_num, by go_num, Nat.le_refl _, by omega, by rw [List.length_append]; simp; omega, by simp, WS2, Lib.hid (by rw [Nat.sub_self, List.take_zero, List.append_assoc]; exact hst.out), HB5⟩
        case measure => simp [intOf]; omega
      · by_cases hx32 : x = 32
        · subst hx32
          have hst := Lib.hid ((congrArg (done ++ ·) (wordsA_gap f cur hx)).symm.trans hn.out)
          clear hx hn hf
          go_wp2_with (first
            | (at_builtin; refine wpList_append_lies _ rfl _ _ 63 rfl W.heap.size 9 i9 (.string ByteArray.empty) 1 16 Tryd.underlying63 hi9 hz9 hs9 hb9 rfl (by decide) _ _ _ rfl (hrl.alloc _) ⟨wr.heap.size, 0, none⟩ 1 1 [.string (S.extract p k)] rfl rfl (cell_one_new wr _ 9) (fun x hx => by simp at hx; subst hx; rfl) (by decide) m1 (by omega) (by simp; omega) _ rfl ?_
               intro g cap w3 hown hgrow hat hglt
               rw [hcell.out] at hown
               have WS1 := Lib.hid (hws.out.push ((Below.refl _ wr).alloc (Nat.le_refl _) _) f hown hgrow hat)
               have HB3 : Hid (Below W.heap.size W w3) := Lib.hid (Below.grown (hw.out.alloc hbase _) hgrow (by simp; omega) (fun j hj => (hrl.lt _ hj).1))
               clear hown hgrow hat hglt))
          go_roundw
          case rel => exact ⟨k + 1, k + 1, done, cur ++ [f], by go_num, by go_num, Nat.le_refl _, by omega, by omega, by rw [List.length_append]; simp; omega, WS1, Lib.hid (by rw [Nat.sub_self, List.take_zero]; exact hst.out), HB3⟩
          case measure => simp [intOf]; omega
        · have e1 : ((x.toNat : Int) == 32) = false := by
            rw [beq_eq_false_iff_ne]
            intro h
            apply hx32
            apply UInt8.toNat_inj.1
            show x.toNat = 32
            omega
          have e2 : ((x.toNat : Int) == 10) = false := by
            rw [beq_eq_false_iff_ne]
            intro h
            apply hx10
            apply UInt8.toNat_inj.1
            show x.toNat = 10
            omega
          have hsk := wordsA_skip cur hpk hx hx10 hx32
          rw [hf] at hsk
          have hst := Lib.hid ((congrArg (done ++ ·) hsk).symm.trans hn.out)
          clear hx hn hf hsk hx10 hx32
          go_wp2
          go_roundw
          case rel => exact ⟨k + 1, p, done, cur, rfl, by go_num, by omega, by omega, by omega, by omega, hws, hst, hw⟩
          case measure => simp [intOf]; omega
    · obtain rfl : k = n := by omega
      have hdn : Hid (done = all) := Lib.hid (by
        have := hn.out
        rw [List.drop_eq_nil_of_le (show l.length ≤ k by rw [HN.out]; omega)] at this
        unfold wordsA at this
        rwa [List.append_nil] at this)
      clear hn
      have q1 : ¬ (k : Int) < (k : Int) := by omega
      go_wp2
      go_ret
      exact ⟨⟨_, rfl, by rw [← hdn.out]; exact hws.out.done⟩, hw.out⟩
end Go.Proofs.YtnfkimhhgflfjaaDoor.Rep
