/- gaolerref05.Same and gaolerref16.Events, walked. -/
import Derived.Test.YtnfkimhhgflfjaaDoorR16
import Derived.BigQuiet
namespace Go.Proofs.YtnfkimhhgflfjaaDoor.Rep
open Go Go.RowKit Go.Shelf
set_option linter.unusedVariables false
set_option linter.unusedSimpArgs false
section
variable {P : Program} {d : Nat} {xs ys : Array Value} {f : Field} {fs : List Field} {a b : Value} {r s : Bool} {w : World}
/-- The last field that counts. -/
theorem eqf_last (hn : (f.name == "_") = false) (ha : (part f.type xs f.offset).run P w = .ok a w) (hb : (part f.type ys f.offset).run P w = .ok b w) (he : (Op.equalIn d f.type a b).run P w = .ok r w) : (Op.eqFields d xs ys [f]).run P w = .ok r w := by
  have hn' : f.name ≠ "_" := by simpa using hn
  simp only [Op.eqFields, if_pos hn', Sem.run_bind, ha, hb, he, Result.andThen_ok]
  cases r <;> simp
theorem eqf_cons (hn : (f.name == "_") = false) (ha : (part f.type xs f.offset).run P w = .ok a w) (hb : (part f.type ys f.offset).run P w = .ok b w) (he : (Op.equalIn d f.type a b).run P w = .ok r w) (hr : (Op.eqFields d xs ys fs).run P w = .ok s w) : (Op.eqFields d xs ys (f :: fs)).run P w = .ok (r && s) w := by
  have hn' : f.name ≠ "_" := by simpa using hn
  rw [Op.eqFields]
  simp only [if_pos hn', Sem.run_bind, ha, hb, he, Result.andThen_ok]
  cases r
  · simp
  · simpa using hr
/-- The last that counts, behind it such as_ don't. -/
theorem eqf_end (hn : (f.name == "_") = false) (ha : (part f.type xs f.offset).run P w = .ok a w) (hb : (part f.type ys f.offset).run P w = .ok b w) (he : (Op.equalIn d f.type a b).run P w = .ok r w) (hr : (Op.eqFields d xs ys fs).run P w = .ok true w) : (Op.eqFields d xs ys (f :: fs)).run P w = .ok r w := by
  have h := eqf_cons hn ha hb he hr
  rwa [Bool.and_true] at h
/-- A field named _ doesn't count. -/
theorem eqf_skip (hn : (f.name == "_") = true) (hr : (Op.eqFields d xs ys fs).run P w = .ok s w) : (Op.eqFields d xs ys (f :: fs)).run P w = .ok s w := by
  have hn' : ¬ (f.name ≠ "_") := by simpa using hn
  rw [Op.eqFields, if_neg hn']
  exact hr
theorem eqf_nil : (Op.eqFields d xs ys []).run P w = .ok true w := by simp [Op.eqFields]
theorem eqA_of {t : TypeId} {fs : Array Field} (hu : P.underlying t = some (.struct fs)) (hp : P.stoodInHeld t = false) (h : (Op.eqFields d xs ys fs.toList).run P w = .ok r w) : (Op.equalIn (d + 1) t (.agg xs) (.agg ys)).run P w = .ok r w := by
  have hf : P.fieldsOf t = fs := by simp [Program.fieldsOf, hu]
  rw [run_equalIn_struct (P := P) w d t xs ys (by rw [hf]; exact hu) hp, hf]
  exact h
end
/-! ### gaolerref05.Same, gaolerref16.Events -/
theorem same_drop {α : Type} [DecidableEq α] {l m : List α} {k : Nat} {x y : α} (hx : l[k]? = some x) (hy : m[k]? = some y) : decide (l.drop k = m.drop k) = (decide (x = y) && decide (l.drop (k + 1) = m.drop (k + 1))) := by
  have h1 : l.drop k = x :: l.drop (k + 1) := by
    obtain ⟨hlt, he⟩ := List.getElem?_eq_some_iff.1 hx
    rw [List.drop_eq_getElem_cons hlt, he]
  have h2 : m.drop k = y :: m.drop (k + 1) := by
    obtain ⟨hlt, he⟩ := List.getElem?_eq_some_iff.1 hy
    rw [List.drop_eq_getElem_cons hlt, he]
  rw [h1, h2, ← Bool.decide_and]
  congr 1
  rw [List.cons.injEq]
theorem u8_int (x y : UInt8) : ((x.toNat : Int) == (y.toNat : Int)) = decide (x = y) := by
  by_cases h : x = y
  · subst h; simp
  · rw [decide_eq_false h, beq_eq_false_iff_ne]
    intro e
    exact h (UInt8.toNat_inj.1 (by omega))
set_option maxRecDepth 100000 in
set_option maxHeartbeats 4000000 in
theorem same5_any (l m : List UInt8) (p q : Option Addr) (c d : Nat) (W : World) (hl : l.length ≤ 1000000) (hp : Bytes W p l) (hq : Bytes W q m) :
    Calls Tryd.prog 31 #[.slice p l.length c, .slice q m.length d] W fun e w' => e = .returned (.bool (decide (l = m))) ∧ Below W.heap.size W w' := by
  by_cases hn : l.length = m.length
  case neg =>
    have h1 : decide (l = m) = false := decide_eq_false (fun e => hn (by rw [e]))
    rw [h1]
    have h2 : ((l.length : Int) == (m.length : Int)) = false := by rw [beq_eq_false_iff_ne]; omega
    go_enter Tryd.func31, Tryd.ntmps31
    go_wp2
    go_ret
    exact ⟨rfl, Below.refl _ _⟩
  case pos =>
    have P := Lib.hid hp
    have Q := Lib.hid hq
    clear hp hq
    obtain ⟨n, hN⟩ : ∃ n, l.length = n := ⟨_, rfl⟩
    have hM : m.length = n := by omega
    have HN := Lib.hid hN
    have HM := Lib.hid hM
    simp only [hN, hM]
    rw [hN] at hl
    clear hN hM hn
    obtain ⟨b, hb⟩ : ∃ b, decide (l = m) = b := ⟨_, rfl⟩
    have HB := Lib.hid hb
    rw [hb]
    clear hb
    go_enter Tryd.func31, Tryd.ntmps31
    go_wp2
    go_loopw [5] (fun vi wr => ∃ k : Nat, k ≤ n ∧ vi = .int .i64 (k : Int) ∧ Hid (decide (l.drop k = m.drop k) = b) ∧ Hid (Below W.heap.size W wr)) (fun vi _ => n - (intOf vi).toNat)
    case atStart => exact ⟨0, by omega, rfl, by rw [List.drop_zero, List.drop_zero]; exact HB, Lib.hid (Below.refl _ _)⟩
    case round =>
      obtain ⟨k, hk, rfl, hV, hB⟩ := hrel
      by_cases hkn : k < n
      · obtain ⟨x, hx⟩ : ∃ x, l[k]? = some x := ⟨l[k]'(by have := HN.out; omega), List.getElem?_eq_getElem _⟩
        obtain ⟨y, hy⟩ : ∃ y, m[k]? = some y := ⟨m[k]'(by have := HM.out; omega), List.getElem?_eq_getElem _⟩
        obtain ⟨a, rfl, hal, hac⟩ := P.out k x hx
        obtain ⟨a', rfl, hbl, hbc⟩ := Q.out k y hy
        have g1 : wr.cell? (a.add k) = some (.int .u8 (x.toNat : Int)) := (hB.out.cell (p := a.add k) hal).trans hac
        have g2 : wr.cell? (a'.add k) = some (.int .u8 (y.toNat : Int)) := (hB.out.cell (p := a'.add k) hbl).trans hbc
        have hV2 := hV.out
        rw [same_drop hx hy] at hV2
        have hV2 := Lib.hid hV2
        have q1 : (k : Int) < (n : Int) := by omega
        have q2 : (0 : Int) ≤ (k : Int) := by omega
        have q3 : IntKind.i64.wrap ((k : Int) + 1) = (k : Int) + 1 := by rw [IntKind.wrap_i64]; omega
        clear hac hbc hx hy hV hal hbl
        by_cases hxy : x = y
        · have e1 : ((x.toNat : Int) == (y.toNat : Int)) = true := by rw [u8_int]; exact decide_eq_true hxy
          have hV3 : Hid (decide (l.drop (k + 1) = m.drop (k + 1)) = b) := Lib.hid (by have := hV2.out; rwa [decide_eq_true hxy, Bool.true_and] at this)
          clear hV2 hxy
          go_wp2_with fail
          go_quiet (fail)
          go_wp2
          go_roundw
          case rel => exact ⟨k + 1, by omega, by go_num, hV3, Lib.hid (bdrew hB.out _)⟩
          case measure => simp [intOf]; omega
        · have e1 : ((x.toNat : Int) == (y.toNat : Int)) = false := by rw [u8_int]; exact decide_eq_false hxy
          have hV3 : b = false := by have := hV2.out; rw [decide_eq_false hxy, Bool.false_and] at this; exact this.symm
          subst hV3
          clear hV2 hxy
          go_wp2_with fail
          go_quiet (fail)
          go_wp2
          go_ret
          exact ⟨rfl, bdrew hB.out _⟩
      · obtain rfl : k = n := by omega
        have hV' := hV.out
        rw [List.drop_eq_nil_of_le (by have := HN.out; omega), List.drop_eq_nil_of_le (by have := HM.out; omega), decide_eq_true rfl] at hV'
        subst hV'
        clear hV
        go_wp2
        go_ret
        exact ⟨rfl, hB.out⟩
theorem exec_load_at {op : Oper} {a : Act} {w : World} (ty : TypeId) (x : Operand) (ho : op.op = .load ty x)
    (p : Addr) (hx : a.eval x = .pointer (some p)) (cs : List Value) (d : TypeDesc) (hc : ∀ j u, cs[j]? = some u → w.cell? (p.add j) = some u)
    (hu : Tryd.prog.underlying ty = some d) (hd : d.isRow = true) (hi : (Tryd.prog.info? ty).map (·.size) = some cs.length) :
    (execOp a.eval op).run Tryd.prog w = .ok (.value (.agg cs.toArray)) w := by
  unfold execOp
  simp only [ho, hx, Instr.loadAt, Instr.sureAddr, Sem.run_bind, Sem.run_pure, Result.andThen_ok, run_loadVar_at w p ty cs d hc hu hd hi]
theorem eqE (d : Nat) (w : World) (i j : Ev) : (Op.equalIn (d + 2) 49 (.agg (ecl i).toArray) (.agg (ecl j).toArray)).run Tryd.prog w = .ok (decide (i = j)) w := by
  obtain ⟨x0, x1, x2⟩ := i
  obtain ⟨y0, y1, y2⟩ := j
  have e : decide ((⟨x0, x1, x2⟩ : Ev) = ⟨y0, y1, y2⟩) = (x0 == y0 && (x1 == y1 && x2 == y2)) := by
    rw [Bool.eq_iff_iff]; simp
  rw [e]
  refine eqA_of Tryd.underlying49 (by kernel_rfl) ?_
  refine eqf_cons (by rfl) (by go_simp; rfl) (by go_simp; rfl) (by go_simp) ?_
  refine eqf_cons (by rfl) (by go_simp; rfl) (by go_simp; rfl) (by go_simp) ?_
  exact eqf_last (by rfl) (by go_simp; rfl) (by go_simp; rfl) (by go_simp)
theorem eqE_at (i j : Ev) (b : Bool) (h : decide (i = j) = b) : ∀ (d : Nat) (w : World), (Op.equalIn (d + 2) 49 (.agg (ecl i).toArray) (.agg (ecl j).toArray)).run Tryd.prog w = .ok b w := fun d w => by rw [eqE, h]
set_option maxRecDepth 100000 in
set_option maxHeartbeats 4000000 in
theorem events_any (l m : List Ev) (p q : Option Addr) (c d : Nat) (W : World) (hl : l.length ≤ 1000000) (hp : Evs W p l) (hq : Evs W q m) :
    Calls Tryd.prog 32 #[.slice p l.length c, .slice q m.length d] W fun e w' => e = .returned (.bool (decide (l = m))) ∧ Below W.heap.size W w' := by
  by_cases hn : l.length = m.length
  case neg =>
    have h1 : decide (l = m) = false := decide_eq_false (fun e => hn (by rw [e]))
    rw [h1]
    have h2 : ((l.length : Int) == (m.length : Int)) = false := by rw [beq_eq_false_iff_ne]; omega
    go_enter Tryd.func32, Tryd.ntmps32
    go_wp2
    go_ret
    exact ⟨rfl, Below.refl _ _⟩
  case pos =>
    have P := Lib.hid hp
    have Q := Lib.hid hq
    clear hp hq
    obtain ⟨n, hN⟩ : ∃ n, l.length = n := ⟨_, rfl⟩
    have hM : m.length = n := by omega
    have HN := Lib.hid hN
    have HM := Lib.hid hM
    simp only [hN, hM]
    rw [hN] at hl
    clear hN hM hn
    obtain ⟨b, hb⟩ : ∃ b, decide (l = m) = b := ⟨_, rfl⟩
    have HB := Lib.hid hb
    rw [hb]
    clear hb
    go_enter Tryd.func32, Tryd.ntmps32
    go_wp2
    go_loopw [5] (fun vi wr => ∃ k : Nat, k ≤ n ∧ vi = .int .i64 (k : Int) ∧ Hid (decide (l.drop k = m.drop k) = b) ∧ Hid (Below W.heap.size W wr)) (fun vi _ => n - (intOf vi).toNat)
    case atStart => exact ⟨0, by omega, rfl, by rw [List.drop_zero, List.drop_zero]; exact HB, Lib.hid (Below.refl _ _)⟩
    case round =>
      obtain ⟨k, hk, rfl, hV, hB⟩ := hrel
      by_cases hkn : k < n
      · obtain ⟨x, hx⟩ : ∃ x, l[k]? = some x := ⟨l[k]'(by have := HN.out; omega), List.getElem?_eq_getElem _⟩
        obtain ⟨y, hy⟩ : ∃ y, m[k]? = some y := ⟨m[k]'(by have := HM.out; omega), List.getElem?_eq_getElem _⟩
        obtain ⟨a, rfl, hal, hac⟩ := P.out k x hx
        obtain ⟨a', rfl, hbl, hbc⟩ := Q.out k y hy
        have hS : Hid (∀ j u, (ecl x)[j]? = some u → wr.cell? ((a.add (k * 3)).add j) = some u) ∧ Hid (∀ j u, (ecl y)[j]? = some u → wr.cell? ((a'.add (k * 3)).add j) = some u) :=
          ⟨Lib.hid (fun j u hj => (hB.out.cell (p := (a.add (k * 3)).add j) (by rw [add_block, add_block]; exact hal)).trans (hac j u hj)), Lib.hid (fun j u hj => (hB.out.cell (p := (a'.add (k * 3)).add j) (by rw [add_block, add_block]; exact hbl)).trans (hbc j u hj))⟩
        have hV2 := hV.out
        rw [same_drop hx hy] at hV2
        have hV2 := Lib.hid hV2
        have q1 : (k : Int) < (n : Int) := by omega
        have q2 : (0 : Int) ≤ (k : Int) := by omega
        have q3 : IntKind.i64.wrap ((k : Int) + 1) = (k : Int) + 1 := by rw [IntKind.wrap_i64]; omega
        have hs3 : ∀ z : Ev, (Tryd.prog.info? 49).map (·.size) = some (ecl z).length := fun _ => size49
        obtain ⟨eb, heb⟩ : ∃ eb, decide (x = y) = eb := ⟨_, rfl⟩
        have heq := eqE_at x y eb heb
        rw [heb] at hV2
        have HS3 := Lib.hid hs3
        have HEQ := Lib.hid heq
        clear hac hbc hx hy hV hal hbl heb hs3 heq
        go_wp2_with fail
        refine wp_region_held_drew (S := fun w' => Hid (∀ j u, (ecl x)[j]? = some u → w'.cell? ((a.add (k * 3)).add j) = some u) ∧ Hid (∀ j u, (ecl y)[j]? = some u → w'.cell? ((a'.add (k * 3)).add j) = some u)) (by kernel_rfl) hS (fun hS => ?_)
        (refine wpAnyH_take (i := 0) (v := (.slice (some a) n c)) rfl (by kernel_rfl) (by kernel_rfl) (by kernel_rfl) (fun _ _ _ h => h) (Or.inl ⟨by rfl, by intro w hSw; (try dsimp only at hSw); simp only [List.getElem_toArray, List.getElem_cons_zero, List.getElem_cons_succ]; go_simp⟩) (by assumption) ?_; simp only [Act.put, List.getElem_toArray, List.getElem_cons_zero, List.getElem_cons_succ, List.setIfInBounds_toArray, List.set_cons_zero, List.set_cons_succ])
        (refine wpAnyH_take (i := 1) (v := (.int .i64 (k : Int))) rfl (by kernel_rfl) (by kernel_rfl) (by kernel_rfl) (fun _ _ _ h => h) (Or.inl ⟨by rfl, by intro w hSw; (try dsimp only at hSw); simp only [List.getElem_toArray, List.getElem_cons_zero, List.getElem_cons_succ]; go_simp⟩) (by assumption) ?_; simp only [Act.put, List.getElem_toArray, List.getElem_cons_zero, List.getElem_cons_succ, List.setIfInBounds_toArray, List.set_cons_zero, List.set_cons_succ])
        (refine wpAnyH_take (i := 2) (v := (.pointer (some (a.add (k * 3))))) rfl (by kernel_rfl) (by kernel_rfl) (by kernel_rfl) (fun _ _ _ h => h) (Or.inl ⟨by rfl, by intro w hSw; (try dsimp only at hSw); simp only [List.getElem_toArray, List.getElem_cons_zero, List.getElem_cons_succ]; go_simp⟩) (by assumption) ?_; simp only [Act.put, List.getElem_toArray, List.getElem_cons_zero, List.getElem_cons_succ, List.setIfInBounds_toArray, List.set_cons_zero, List.set_cons_succ])
        (refine wpAnyH_take (i := 3) (v := (.agg (ecl x).toArray)) rfl (by kernel_rfl) (by kernel_rfl) (by kernel_rfl) (fun _ _ _ h => h) (Or.inl ⟨by rfl, by intro w hSw; (try dsimp only at hSw); simp only [List.getElem_toArray, List.getElem_cons_zero, List.getElem_cons_succ]; exact exec_load_at 49 (.tmp 19) rfl (a.add (k * 3)) rfl (ecl x) _ hSw.1.out Tryd.underlying49 rfl (HS3.out x)⟩) (by assumption) ?_; simp only [Act.put, List.getElem_toArray, List.getElem_cons_zero, List.getElem_cons_succ, List.setIfInBounds_toArray, List.set_cons_zero, List.set_cons_succ])
        (refine wpAnyH_take (i := 4) (v := (.slice (some a') n d)) rfl (by kernel_rfl) (by kernel_rfl) (by kernel_rfl) (fun _ _ _ h => h) (Or.inl ⟨by rfl, by intro w hSw; (try dsimp only at hSw); simp only [List.getElem_toArray, List.getElem_cons_zero, List.getElem_cons_succ]; go_simp⟩) (by assumption) ?_; simp only [Act.put, List.getElem_toArray, List.getElem_cons_zero, List.getElem_cons_succ, List.setIfInBounds_toArray, List.set_cons_zero, List.set_cons_succ])
        (refine wpAnyH_take (i := 5) (v := (.int .i64 (k : Int))) rfl (by kernel_rfl) (by kernel_rfl) (by kernel_rfl) (fun _ _ _ h => h) (Or.inl ⟨by rfl, by intro w hSw; (try dsimp only at hSw); simp only [List.getElem_toArray, List.getElem_cons_zero, List.getElem_cons_succ]; go_simp⟩) (by assumption) ?_; simp only [Act.put, List.getElem_toArray, List.getElem_cons_zero, List.getElem_cons_succ, List.setIfInBounds_toArray, List.set_cons_zero, List.set_cons_succ])
        (refine wpAnyH_take (i := 6) (v := (.pointer (some (a'.add (k * 3))))) rfl (by kernel_rfl) (by kernel_rfl) (by kernel_rfl) (fun _ _ _ h => h) (Or.inl ⟨by rfl, by intro w hSw; (try dsimp only at hSw); simp only [List.getElem_toArray, List.getElem_cons_zero, List.getElem_cons_succ]; go_simp⟩) (by assumption) ?_; simp only [Act.put, List.getElem_toArray, List.getElem_cons_zero, List.getElem_cons_succ, List.setIfInBounds_toArray, List.set_cons_zero, List.set_cons_succ])
        (refine wpAnyH_take (i := 7) (v := (.agg (ecl y).toArray)) rfl (by kernel_rfl) (by kernel_rfl) (by kernel_rfl) (fun _ _ _ h => h) (Or.inl ⟨by rfl, by intro w hSw; (try dsimp only at hSw); simp only [List.getElem_toArray, List.getElem_cons_zero, List.getElem_cons_succ]; exact exec_load_at 49 (.tmp 23) rfl (a'.add (k * 3)) rfl (ecl y) _ hSw.2.out Tryd.underlying49 rfl (HS3.out y)⟩) (by assumption) ?_; simp only [Act.put, List.getElem_toArray, List.getElem_cons_zero, List.getElem_cons_succ, List.setIfInBounds_toArray, List.set_cons_zero, List.set_cons_succ])
        (refine wpAnyH_take (i := 8) (v := (.bool (!eb))) rfl (by kernel_rfl) (by kernel_rfl) (by kernel_rfl) (fun _ _ _ h => h) (Or.inl ⟨by rfl, by intro w hSw; (try dsimp only at hSw); simp only [List.getElem_toArray, List.getElem_cons_zero, List.getElem_cons_succ]; have heq := HEQ.out; go_simp⟩) (by assumption) ?_; simp only [Act.put, List.getElem_toArray, List.getElem_cons_zero, List.getElem_cons_succ, List.setIfInBounds_toArray, List.set_cons_zero, List.set_cons_succ])
        refine wpAnyH_done (by kernel_rfl) ?_ _
        cases eb with
        | true =>
          have hV3 : Hid (decide (l.drop (k + 1) = m.drop (k + 1)) = b) := Lib.hid (by have := hV2.out; rwa [Bool.true_and] at this)
          clear hV2
          go_wp2
          go_roundw
          case rel => exact ⟨k + 1, by omega, by go_num, hV3, Lib.hid (Below.drew hB.out)⟩
          case measure => simp [intOf]; omega
        | false =>
          have hV3 : b = false := by have := hV2.out; rw [Bool.false_and] at this; exact this.symm
          subst hV3
          clear hV2
          go_wp2
          go_ret
          exact ⟨rfl, Below.drew hB.out⟩
      · obtain rfl : k = n := by omega
        have hV' := hV.out
        rw [List.drop_eq_nil_of_le (by have := HN.out; omega), List.drop_eq_nil_of_le (by have := HM.out; omega), decide_eq_true rfl] at hV'
        subst hV'
        clear hV
        go_wp2
        go_ret
        exact ⟨rfl, hB.out⟩
end Go.Proofs.YtnfkimhhgflfjaaDoor.Rep
