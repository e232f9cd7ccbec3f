/- A round of report.Parse that reads an event, walked. -/
import Derived.Test.YtnfkimhhgflfjaaDoorR12
namespace Go.Proofs.YtnfkimhhgflfjaaDoor.Rep
open Go Go.RowKit Go.Shelf
set_option linter.unusedVariables false
set_option linter.unusedSimpArgs false
attribute [local go_sem] Oper.semAt_some
theorem info49 : (Tryd.prog.info? 49).map (fun i => (i.zero, i.size, i.bytes)) = some (some (.agg #[.int .i64 0, .int .i64 0, .int .u64 0]), 3, 24) := by kernel_rfl
theorem own_cells {W : World} {n₀ e sz k : Nat} {v : Value} {l : List Value} (h : W.ownsRow n₀ e sz v k l) : ∀ (j : Nat) (o : Obj), v.ownBlock = some j → W.heap[j]? = some o → o.isCells = true := fun j o hj ho => by
  rcases h.2 with ⟨h1, _⟩ | ⟨g, cap, cur, hv, hb, hg, _⟩
  · rw [h1] at hj; cases hj
  · rw [hv] at hj
    have hgj : g = j := by simpa [Value.ownBlock] using hj
    rw [← hgj, hg] at ho
    cases ho
    rfl
set_option maxRecDepth 100000 in
set_option maxHeartbeats 8000000 in
theorem round_b {w : World} {xs : List (List UInt8)} {y : List UInt8} {s k l : Nat} {v : Vp} {W : World} (h : PI w xs y s k k v W) (S t : ByteArray) (x : List UInt8) (hx : x.length ≤ 1000000)
    (hT : ∀ W, Calls Tryd.prog 24 #[.string t, .string ⟨#[10]⟩] W fun e w' => e = .returned (.string ⟨x.toArray⟩) ∧ w' = W) (hk0 : 0 < k) (hk : k ≤ 1000000) (hlog : v.log.length ≤ 1000000) (h3 : (pcs x).length = 3) :
    pbody.wpIn (Fence.wide.inRound l) 3 Tryd.prog (goesOn (fun W' => PI w xs y s (k + 1) k (stepV k v (pcs x)) W') W) (pframe S t s) W := by
  have hst : stepV k v (pcs x) = { v with log := v.log ++ [evV (pcs x)] } := by unfold stepV; rw [if_neg (by omega), if_pos ⟨hk0, h3⟩]
  rw [hst]
  unfold pframe
  conv => arg 4; whnf
  have H := Lib.hid h
  have T := Lib.hid hT
  have SP := Lib.hid (fun W hE => split_any x hx W hE)
  have hlen := pcs_len x
  have hget : ∀ j, j < 3 → ∃ z, (pcs x)[j]? = some z ∧ (pcs x).getD j [] = z ∧ z.length ≤ 1000000 := fun j hj => by
    refine ⟨(pcs x)[j]'(by omega), List.getElem?_eq_getElem _, ?_, Nat.le_trans (hlen _ (List.getElem_mem _)) hx⟩
    rw [List.getD, List.getElem?_eq_getElem (by omega)]
    rfl
  obtain ⟨l0, a0, b0, c0'⟩ := hget 0 (by omega)
  obtain ⟨l1, a1, b1, c1⟩ := hget 1 (by omega)
  obtain ⟨l2, a2, b2, c2⟩ := hget 2 (by omega)
  have hev : evV (pcs x) = { kind := kindI l0, pos := ((min (readN l1) 1099511627776 : Nat) : Int), time := (readN l2 : Int) } := by unfold evV; rw [b0, b1, b2]
  have hwf := evV_wf (pcs x)
  have cl : ∀ (j : Nat) z, (pcs x)[j]? = some z → (W.alloc (.cells ((pcs x).map (fun l => Value.string ⟨l.toArray⟩)).toArray 9)).cell? ⟨W.heap.size, j, none⟩ = some (.string ⟨z.toArray⟩) := fun j z hj => by
    rw [World.cell?_alloc_new]; simp [List.getElem?_map, hj]
  have k0 := cl 0 _ a0
  have k1 := cl 1 _ a1
  have k2 := cl 2 _ a2
  rw [h3] at SP
  have SP : Hid (∀ W, Env W → Calls Tryd.prog 23 #[.string ⟨x.toArray⟩, .string ⟨#[32]⟩] W fun e w' => e = .returned (.slice (some ⟨W.heap.size, 0, none⟩) 3 3) ∧ w' = W.alloc (.cells ((pcs x).map (fun l => Value.string ⟨l.toArray⟩)).toArray 9)) := SP
  obtain ⟨O, hO⟩ : ∃ O : Obj, Obj.cells ((pcs x).map (fun l => Value.string ⟨l.toArray⟩)).toArray 9 (0, 0) = O := ⟨_, rfl⟩
  rw [hO] at SP k0 k1 k2
  obtain ⟨X, hX⟩ : ∃ X : ByteArray, ⟨x.toArray⟩ = X := ⟨_, rfl⟩
  rw [hX] at T SP
  have H1 := Lib.hid (H.out.alloc O)
  have IX := Lib.hid (fun W hE => index_any l0 W hE)
  have R1 := Lib.hid (fun W hE => read_any ⟨l1.toArray⟩ (by show l1.length ≤ _; omega) W hE)
  have R2 := Lib.hid (fun W hE => read_any ⟨l2.toArray⟩ (by show l2.length ≤ _; omega) W hE)
  obtain ⟨n1, hn1⟩ : ∃ n, readN l1 = n := ⟨_, rfl⟩
  obtain ⟨n2, hn2⟩ : ∃ n, readN l2 = n := ⟨_, rfl⟩
  obtain ⟨ki, hki⟩ : ∃ n, kindI l0 = n := ⟨_, rfl⟩
  obtain ⟨m1, hm1⟩ : ∃ m, min n1 1099511627776 = m := ⟨_, rfl⟩
  rw [hn1, hn2, hki, hm1] at hev
  have hm1' : min (n1 : Int) 1099511627776 = (m1 : Int) := by omega
  have hm1w : IntKind.i64.wrap (m1 : Int) = (m1 : Int) := by rw [IntKind.wrap_i64]; omega
  rw [hki] at IX
  have R1 : Hid (∀ W, Env W → Calls Tryd.prog 27 #[.string ⟨l1.toArray⟩] W fun e w' => e = .returned (.int .u64 (n1 : Int)) ∧ Below W.heap.size W w') := by rw [← hn1]; exact R1
  have R2 : Hid (∀ W, Env W → Calls Tryd.prog 27 #[.string ⟨l2.toArray⟩] W fun e w' => e = .returned (.int .u64 (n2 : Int)) ∧ Below W.heap.size W w') := by rw [← hn2]; exact R2
  have hn1' : n1 ≤ 18446744073709551615 := hn1 ▸ readN_lt l1
  rw [hev] at hwf ⊢
  obtain ⟨S0, hS0⟩ : ∃ S : ByteArray, ⟨l0.toArray⟩ = S := ⟨_, rfl⟩
  obtain ⟨S1, hS1⟩ : ∃ S : ByteArray, ⟨l1.toArray⟩ = S := ⟨_, rfl⟩
  obtain ⟨S2, hS2⟩ : ∃ S : ByteArray, ⟨l2.toArray⟩ = S := ⟨_, rfl⟩
  rw [hS0] at k0 IX
  rw [hS1] at k1 R1
  rw [hS2] at k2 R2
  have HW := Lib.hid (keeps_later ((Below.refl W.heap.size W).alloc (Nat.le_refl _) O))
  obtain ⟨W1, hW1⟩ : ∃ W1, W.alloc O = W1 := ⟨_, rfl⟩
  have szW1 : W.heap.size < W1.heap.size := by rw [← hW1]; simp
  obtain ⟨G, hG⟩ : ∃ G, W.heap.size = G := ⟨_, rfl⟩
  have SP : Hid (Calls Tryd.prog 23 #[.string X, .string ⟨#[32]⟩] W fun e w' => e = .returned (.slice (some ⟨G, 0, none⟩) 3 3) ∧ w' = W1) := Lib.hid (by rw [← hG, ← hW1]; exact SP.out W H.out.env)
  rw [hG] at k0 k1 k2 szW1
  rw [hW1] at k0 k1 k2 H1 HW
  clear h hT hlen hO hX hget a0 a1 a2 b0 b1 b2 c0' c1 c2 cl hst h3 hn1 hn2 hki hS0 hS1 hS2 hev
  have c0 := H1.out.cnt.cell
  have f0 := H1.out.cnt.frozen
  have q2 : ((k : Int) == 0) = false := by rw [beq_eq_false_iff_ne]; omega
  have q3 : (0 : Int) < (k : Int) := by omega
  obtain ⟨p, c, q, d, v1, v2, v3, v4⟩ := H.out.bv
  have hne : some G ≠ (Value.slice q v.log.length d).ownBlock := fun e => by have := (v4.lt G e.symm).2; omega
  have bA : Below W.heap.size W W1 := by rw [← hW1]; exact (Below.refl W.heap.size W).alloc (Nat.le_refl _) O
  have v4 := v4.kept (grown_of_below bA) (by cases (Value.slice q v.log.length d).ownBlock <;> simp)
  have v1 := v1.later bA
  have v2 := v2.later bA
  clear hW1
  obtain ⟨N, hN⟩ : ∃ N, v.log.length = N := ⟨_, rfl⟩
  rw [hN] at v3 v4 hlog hne
  have cq : W1.cell? ⟨s + 1, 32, none⟩ = some (.slice q N d) := by
    have g32 : (vcs v p c q d)[32]? = some (.slice q v.log.length d) := vcs_end H1.out.wf p c q d 3
    rw [hN] at g32
    have := v1.range 32 _ g32
    simpa using this
  gi_wp2_with (first
    | (refine ⟨trivial, ?_⟩; gi_at_call 24; refine (CallsIn.inRound _ (callsIn_wide.2 (T.out _))).mono ?_; rintro e w' ⟨rfl, hw'⟩; rw [hw']; clear hw' w')
    | (refine ⟨trivial, ?_⟩; gi_at_call 23; refine (CallsIn.inRound _ (callsIn_wide.2 SP.out)).mono ?_; rintro e w' ⟨rfl, hw'⟩; rw [hw']; clear hw' w'))
  obtain ⟨W2, hW2⟩ : ∃ W2, W1.drew = W2 := ⟨_, rfl⟩
  have k0 : W2.cell? ⟨G, 0, none⟩ = some (.string S0) := hW2 ▸ k0
  have k1 : W2.cell? ⟨G, 1, none⟩ = some (.string S1) := hW2 ▸ k1
  have k2 : W2.cell? ⟨G, 2, none⟩ = some (.string S2) := hW2 ▸ k2
  have cq : W2.cell? ⟨s + 1, 32, none⟩ = some (.slice q N d) := hW2 ▸ cq
  have B2 : Hid (Below W1.heap.size W1 W2) := Lib.hid (hW2 ▸ (Below.refl _ W1).drew)
  have E2 : Hid (Env W2) := Lib.hid (H1.out.env.later B2.out)
  have own2 : W2.ownsRow (s + 6) 49 3 (.slice q N d) N (v.log.flatMap ecl) := hW2 ▸ v4
  have there2 : W2.frozen? ⟨s + 1, 32, none⟩ = false := by rw [← hW2]; exact (v1.there 32 (by decide)).2
  have z0 : G < W2.heap.size := Nat.lt_of_lt_of_le szW1 B2.out.size
  have z1 : s + 1 < W2.heap.size := by have := H1.out.le; have := B2.out.size; omega
  have z2 : (0 : Int) < 3 := by decide
  refine round_t (S := fun w' => w'.cell? ⟨s + 1, 32, none⟩ = some (.slice q N d) ∧ w'.cell? ⟨G, 0, none⟩ = some (.string S0) ∧ w'.cell? ⟨G, 1, none⟩ = some (.string S1) ∧ w'.cell? ⟨G, 2, none⟩ = some (.string S2)) (z := 21) (by kernel_rfl) (by rintro ⟨a, w, h⟩; exact h) ?_
  rw [hW2]
  have hS2 : W2.cell? ⟨s + 1, 32, none⟩ = some (.slice q N d) ∧ W2.cell? ⟨G, 0, none⟩ = some (.string S0) ∧ W2.cell? ⟨G, 1, none⟩ = some (.string S1) ∧ W2.cell? ⟨G, 2, none⟩ = some (.string S2) := ⟨cq, k0, k1, k2⟩
  clear k0 k1 k2 cq c0 f0 SP T
  refine wpT_take (i := 0) (v := (.pointer (some ⟨s + 1, 32, none⟩))) rfl (by decide) (by kernel_rfl) (by kernel_rfl) (by kernel_rfl) (by kernel_rfl) (fun _ _ _ h => h) (by rfl) (by intro w hSw; (try dsimp only at hSw); simp only [List.getElem_toArray, List.getElem_cons_zero, List.getElem_cons_succ]; go_simp) (by assumption) ?_
  simp only [Act.put, List.getElem_toArray, List.getElem_cons_zero, List.getElem_cons_succ, List.setIfInBounds_toArray, List.set_cons_zero, List.set_cons_succ]
  refine wpT_take (i := 1) (v := (.slice q N d)) rfl (by decide) (by kernel_rfl) (by kernel_rfl) (by kernel_rfl) (by kernel_rfl) (fun _ _ _ h => h) (by rfl) (by intro w hSw; (try dsimp only at hSw); simp only [List.getElem_toArray, List.getElem_cons_zero, List.getElem_cons_succ]; go_simp) (by assumption) ?_
  simp only [Act.put, List.getElem_toArray, List.getElem_cons_zero, List.getElem_cons_succ, List.setIfInBounds_toArray, List.set_cons_zero, List.set_cons_succ]
  refine wpT_take (i := 2) (v := (.slice (some ⟨0, 0, none⟩) 4 4)) rfl (by decide) (by kernel_rfl) (by kernel_rfl) (by kernel_rfl) (by kernel_rfl) (fun _ _ _ h => h) (by rfl) (by intro w hSw; (try dsimp only at hSw); simp only [List.getElem_toArray, List.getElem_cons_zero, List.getElem_cons_succ]; go_simp) (by assumption) ?_
  simp only [Act.put, List.getElem_toArray, List.getElem_cons_zero, List.getElem_cons_succ, List.setIfInBounds_toArray, List.set_cons_zero, List.set_cons_succ]
  refine wpT_take (i := 3) (v := (.slice (some ⟨G, 0, none⟩) 3 3)) rfl (by decide) (by kernel_rfl) (by kernel_rfl) (by kernel_rfl) (by kernel_rfl) (fun _ _ _ h => h) (by rfl) (by intro w hSw; (try dsimp only at hSw); simp only [List.getElem_toArray, List.getElem_cons_zero, List.getElem_cons_succ]; go_simp) (by assumption) ?_
  simp only [Act.put, List.getElem_toArray, List.getElem_cons_zero, List.getElem_cons_succ, List.setIfInBounds_toArray, List.set_cons_zero, List.set_cons_succ]
  refine wpT_take (i := 4) (v := (.pointer (some ⟨G, 0, none⟩))) rfl (by decide) (by kernel_rfl) (by kernel_rfl) (by kernel_rfl) (by kernel_rfl) (fun _ _ _ h => h) (by rfl) (by intro w hSw; (try dsimp only at hSw); simp only [List.getElem_toArray, List.getElem_cons_zero, List.getElem_cons_succ]; go_simp) (by assumption) ?_
  simp only [Act.put, List.getElem_toArray, List.getElem_cons_zero, List.getElem_cons_succ, List.setIfInBounds_toArray, List.set_cons_zero, List.set_cons_succ]
  refine wpT_take (i := 5) (v := (.string S0)) rfl (by decide) (by kernel_rfl) (by kernel_rfl) (by kernel_rfl) (by kernel_rfl) (fun _ _ _ h => h) (by rfl) (by intro w hSw; (try dsimp only at hSw); simp only [List.getElem_toArray, List.getElem_cons_zero, List.getElem_cons_succ]; go_simp) (by assumption) ?_
  simp only [Act.put, List.getElem_toArray, List.getElem_cons_zero, List.getElem_cons_succ, List.setIfInBounds_toArray, List.set_cons_zero, List.set_cons_succ]
  refine wpT_take (i := 7) (v := (.slice (some ⟨G, 0, none⟩) 3 3)) rfl (by decide) (by kernel_rfl) (by kernel_rfl) (by kernel_rfl) (by kernel_rfl) (fun _ _ _ h => h) (by rfl) (by intro w hSw; (try dsimp only at hSw); simp only [List.getElem_toArray, List.getElem_cons_zero, List.getElem_cons_succ]; go_simp) (by assumption) ?_
  simp only [Act.put, List.getElem_toArray, List.getElem_cons_zero, List.getElem_cons_succ, List.setIfInBounds_toArray, List.set_cons_zero, List.set_cons_succ]
  refine wpT_take (i := 8) (v := (.pointer (some ⟨G, 1, none⟩))) rfl (by decide) (by kernel_rfl) (by kernel_rfl) (by kernel_rfl) (by kernel_rfl) (fun _ _ _ h => h) (by rfl) (by intro w hSw; (try dsimp only at hSw); simp only [List.getElem_toArray, List.getElem_cons_zero, List.getElem_cons_succ]; go_simp) (by assumption) ?_
  simp only [Act.put, List.getElem_toArray, List.getElem_cons_zero, List.getElem_cons_succ, List.setIfInBounds_toArray, List.set_cons_zero, List.set_cons_succ]
  refine wpT_take (i := 9) (v := (.string S1)) rfl (by decide) (by kernel_rfl) (by kernel_rfl) (by kernel_rfl) (by kernel_rfl) (fun _ _ _ h => h) (by rfl) (by intro w hSw; (try dsimp only at hSw); simp only [List.getElem_toArray, List.getElem_cons_zero, List.getElem_cons_succ]; go_simp) (by assumption) ?_
  simp only [Act.put, List.getElem_toArray, List.getElem_cons_zero, List.getElem_cons_succ, List.setIfInBounds_toArray, List.set_cons_zero, List.set_cons_succ]
  refine wpT_take (i := 13) (v := (.slice (some ⟨G, 0, none⟩) 3 3)) rfl (by decide) (by kernel_rfl) (by kernel_rfl) (by kernel_rfl) (by kernel_rfl) (fun _ _ _ h => h) (by rfl) (by intro w hSw; (try dsimp only at hSw); simp only [List.getElem_toArray, List.getElem_cons_zero, List.getElem_cons_succ]; go_simp) (by assumption) ?_
  simp only [Act.put, List.getElem_toArray, List.getElem_cons_zero, List.getElem_cons_succ, List.setIfInBounds_toArray, List.set_cons_zero, List.set_cons_succ]
  refine wpT_take (i := 14) (v := (.pointer (some ⟨G, 2, none⟩))) rfl (by decide) (by kernel_rfl) (by kernel_rfl) (by kernel_rfl) (by kernel_rfl) (fun _ _ _ h => h) (by rfl) (by intro w hSw; (try dsimp only at hSw); simp only [List.getElem_toArray, List.getElem_cons_zero, List.getElem_cons_succ]; go_simp) (by assumption) ?_
  simp only [Act.put, List.getElem_toArray, List.getElem_cons_zero, List.getElem_cons_succ, List.setIfInBounds_toArray, List.set_cons_zero, List.set_cons_succ]
  refine wpT_take (i := 15) (v := (.string S2)) rfl (by decide) (by kernel_rfl) (by kernel_rfl) (by kernel_rfl) (by kernel_rfl) (fun _ _ _ h => h) (by rfl) (by intro w hSw; (try dsimp only at hSw); simp only [List.getElem_toArray, List.getElem_cons_zero, List.getElem_cons_succ]; go_simp) (by assumption) ?_
  simp only [Act.put, List.getElem_toArray, List.getElem_cons_zero, List.getElem_cons_succ, List.setIfInBounds_toArray, List.set_cons_zero, List.set_cons_succ]
  refine wpT_step (i := 6) (by kernel_rfl) rfl rfl (fun K hK => ?_)
  simp only [List.getElem_toArray, List.getElem_cons_zero, List.getElem_cons_succ]
  go_simp
  refine (IX.out _ E2.out).mono ?_
  rintro e w' ⟨rfl, hw'⟩
  rw [hw']
  clear hw' w'
  refine hK _ _ (fun _ => hS2) ?_
  clear hK K
  refine wpT_step (i := 10) (by kernel_rfl) rfl rfl (fun K hK => ?_)
  simp only [List.getElem_toArray, List.getElem_cons_zero, List.getElem_cons_succ]
  go_simp
  refine (R1.out _ E2.out).mono ?_
  rintro e W3 ⟨rfl, b3⟩
  have hS3 : W3.cell? ⟨s + 1, 32, none⟩ = some (.slice q N d) ∧ W3.cell? ⟨G, 0, none⟩ = some (.string S0) ∧ W3.cell? ⟨G, 1, none⟩ = some (.string S1) ∧ W3.cell? ⟨G, 2, none⟩ = some (.string S2) :=
    ⟨(b3.cell (p := ⟨s + 1, 32, none⟩) z1).trans hS2.1, (b3.cell (p := ⟨G, 0, none⟩) z0).trans hS2.2.1, (b3.cell (p := ⟨G, 1, none⟩) z0).trans hS2.2.2.1, (b3.cell (p := ⟨G, 2, none⟩) z0).trans hS2.2.2.2⟩
  refine hK _ _ (fun _ => hS3) ?_
  clear hK K
  refine wpT_take (i := 11) (v := (.int .u64 (m1 : Int))) rfl (by decide) (by kernel_rfl) (by kernel_rfl) (by kernel_rfl) (by kernel_rfl) (fun _ _ _ h => h) (by rfl) (by intro w hSw; (try dsimp only at hSw); simp only [List.getElem_toArray, List.getElem_cons_zero, List.getElem_cons_succ]; go_simp) (by assumption) ?_
  simp only [Act.put, List.getElem_toArray, List.getElem_cons_zero, List.getElem_cons_succ, List.setIfInBounds_toArray, List.set_cons_zero, List.set_cons_succ]
  refine wpT_take (i := 12) (v := (.int .i64 (m1 : Int))) rfl (by decide) (by kernel_rfl) (by kernel_rfl) (by kernel_rfl) (by kernel_rfl) (fun _ _ _ h => h) (by rfl) (by intro w hSw; (try dsimp only at hSw); simp only [List.getElem_toArray, List.getElem_cons_zero, List.getElem_cons_succ]; go_simp) (by assumption) ?_
  simp only [Act.put, List.getElem_toArray, List.getElem_cons_zero, List.getElem_cons_succ, List.setIfInBounds_toArray, List.set_cons_zero, List.set_cons_succ]
  refine wpT_step (i := 16) (by kernel_rfl) rfl rfl (fun K hK => ?_)
  simp only [List.getElem_toArray, List.getElem_cons_zero, List.getElem_cons_succ]
  go_simp
  refine (R2.out _ (E2.out.later b3)).mono ?_
  rintro e W4 ⟨rfl, b4⟩
  have hS4 : W4.cell? ⟨s + 1, 32, none⟩ = some (.slice q N d) ∧ W4.cell? ⟨G, 0, none⟩ = some (.string S0) ∧ W4.cell? ⟨G, 1, none⟩ = some (.string S1) ∧ W4.cell? ⟨G, 2, none⟩ = some (.string S2) :=
    ⟨(b4.cell (p := ⟨s + 1, 32, none⟩) (Nat.lt_of_lt_of_le z1 b3.size)).trans hS3.1, (b4.cell (p := ⟨G, 0, none⟩) (Nat.lt_of_lt_of_le z0 b3.size)).trans hS3.2.1, (b4.cell (p := ⟨G, 1, none⟩) (Nat.lt_of_lt_of_le z0 b3.size)).trans hS3.2.2.1, (b4.cell (p := ⟨G, 2, none⟩) (Nat.lt_of_lt_of_le z0 b3.size)).trans hS3.2.2.2⟩
  refine hK _ _ (fun _ => hS4) ?_
  clear hK K
  refine wpT_take (i := 17) (v := (.agg #[.int .i64 ki, .int .i64 (m1 : Int), .int .u64 (n2 : Int)])) rfl (by decide) (by kernel_rfl) (by kernel_rfl) (by kernel_rfl) (by kernel_rfl) (fun _ _ _ h => h) (by rfl) (by intro w hSw; (try dsimp only at hSw); simp only [List.getElem_toArray, List.getElem_cons_zero, List.getElem_cons_succ]; go_simp) (by assumption) ?_
  simp only [Act.put, List.getElem_toArray, List.getElem_cons_zero, List.getElem_cons_succ, List.setIfInBounds_toArray, List.set_cons_zero, List.set_cons_succ]
  have b24 : Below W2.heap.size W2 W4 := b3.trans (b4.mono b3.size)
  refine wpT_step (i := 18) (by kernel_rfl) rfl rfl (fun K hK => ?_)
  simp only [List.getElem_toArray, List.getElem_cons_zero, List.getElem_cons_succ]
  go_simp
  obtain ⟨g5, hg5⟩ : ∃ g, W4.heap.size = g := ⟨_, rfl⟩
  obtain ⟨W5, hW5⟩ : ∃ W5, W4.alloc (.cells #[Value.int .i64 ki, .int .i64 (m1 : Int), .int .u64 (n2 : Int)] 49) = W5 := ⟨_, rfl⟩
  have b45 : Below W4.heap.size W4 W5 := by rw [← hW5]; exact (Below.refl W4.heap.size W4).alloc (Nat.le_refl _) _
  have b25 : Below W2.heap.size W2 W5 := b24.trans (b45.mono b24.size)
  have sz5 : W5.heap.size = g5 + 1 := by rw [← hW5, ← hg5]; simp
  have blk5 : W5.heap[g5]? = some (.cells #[Value.int .i64 ki, .int .i64 (m1 : Int), .int .u64 (n2 : Int)] 49) := by rw [← hW5, ← hg5]; exact World.alloc_heap_new W4 _
  have hS5 : W5.cell? ⟨s + 1, 32, none⟩ = some (.slice q N d) ∧ W5.cell? ⟨G, 0, none⟩ = some (.string S0) ∧ W5.cell? ⟨G, 1, none⟩ = some (.string S1) ∧ W5.cell? ⟨G, 2, none⟩ = some (.string S2) :=
    ⟨(b25.cell (p := ⟨s + 1, 32, none⟩) z1).trans hS2.1, (b25.cell (p := ⟨G, 0, none⟩) z0).trans hS2.2.1, (b25.cell (p := ⟨G, 1, none⟩) z0).trans hS2.2.2.1, (b25.cell (p := ⟨G, 2, none⟩) z0).trans hS2.2.2.2⟩
  have fz5 : W5.frozen? ⟨s + 1, 32, none⟩ = false := (b25.frozen (p := ⟨s + 1, 32, none⟩) z1).trans there2
  have own5 : W5.ownsRow (s + 6) 49 3 (.slice q N d) N (v.log.flatMap ecl) := own2.kept (grown_of_below b25) (by cases (Value.slice q N d).ownBlock <;> simp)
  have lt5 : G < W5.heap.size := Nat.lt_of_lt_of_le z0 b25.size
  have lt5' : s + 1 < W5.heap.size := Nat.lt_of_lt_of_le z1 b25.size
  have b15 : Below W1.heap.size W1 W5 := B2.out.trans (b25.mono B2.out.size)
  rw [hg5, hW5]
  refine hK _ _ (fun _ => hS5) ?_
  clear hK K
  obtain ⟨i0, hi, hz0, hz1, hz2⟩ := info_parts info49
  have bs5 : s + 6 ≤ W5.heap.size := Nat.le_trans H1.out.le b15.size
  refine wpT_step (i := 19) (by kernel_rfl) rfl rfl (fun K hK => ?_)
  simp only [List.getElem_toArray, List.getElem_cons_zero, List.getElem_cons_succ]
  refine wp_append_lies W5 (.tmp 35) (.tmp 52) 28 rfl (s + 6) 49 i0 (.agg #[.int .i64 0, .int .i64 0, .int .u64 0]) 3 24 Tryd.underlying28 hi hz0 hz1 hz2 (by rfl) (by decide) (.slice q N d) N (v.log.flatMap ecl) (by rfl) own5 ⟨g5, 0, none⟩ 1 1 (ecl ⟨ki, (m1 : Int), (n2 : Int)⟩) (by rfl) (by rfl) (World.news_of_block blk5) (fun u hu => by simp only [ecl, List.mem_cons, List.not_mem_nil, or_false] at hu; rcases hu with rfl | rfl | rfl <;> rfl) (by decide) (by simp [maxLen]; omega) (by omega) bs5 (g5 + 1) sz5 ?_
  intro g cap W6 own6 grow6 at6 lt6
  have hS6 : W6.cell? ⟨s + 1, 32, none⟩ = some (.slice q N d) ∧ W6.cell? ⟨G, 0, none⟩ = some (.string S0) ∧ W6.cell? ⟨G, 1, none⟩ = some (.string S1) ∧ W6.cell? ⟨G, 2, none⟩ = some (.string S2) :=
    ⟨(grow6.cell_far ⟨s + 1, 32, none⟩ lt5' (ownNe own5 (by show s + 1 < s + 6; omega))).trans hS5.1, (grow6.cell_far ⟨G, 0, none⟩ lt5 hne).trans hS5.2.1, (grow6.cell_far ⟨G, 1, none⟩ lt5 hne).trans hS5.2.2.1, (grow6.cell_far ⟨G, 2, none⟩ lt5 hne).trans hS5.2.2.2⟩
  have fz6 : W6.frozen? ⟨s + 1, 32, none⟩ = false := (grow6.frozen_far ⟨s + 1, 32, none⟩ lt5' (ownNe own5 (by show s + 1 < s + 6; omega))).trans fz5
  have fc6 := hS6.1
  refine hK _ _ (fun _ => hS6) ?_
  clear hK K
  simp only [Act.put, List.setIfInBounds_toArray, List.set_cons_zero, List.set_cons_succ]
  refine wpT_take (i := 20) (v := (.pointer (some ⟨s + 1, 32, none⟩))) rfl (by decide) (by kernel_rfl) (by kernel_rfl) (by kernel_rfl) (by kernel_rfl) (fun _ _ _ h => h) (by rfl) (by intro w hSw; (try dsimp only at hSw); simp only [List.getElem_toArray, List.getElem_cons_zero, List.getElem_cons_succ]; go_simp) (by assumption) ?_
  simp only [Act.put, List.getElem_toArray, List.getElem_cons_zero, List.getElem_cons_succ, List.setIfInBounds_toArray, List.set_cons_zero, List.set_cons_succ]
  refine wpT_step (i := 21) (by kernel_rfl) rfl rfl (fun K hK => ?_)
  simp only [List.getElem_toArray, List.getElem_cons_zero, List.getElem_cons_succ]
  go_simp
  have P6 : Hid (PI w xs y s k k { v with log := v.log ++ [⟨ki, (m1 : Int), (n2 : Int)⟩] } (W6.setCell ⟨s + 1, 32, none⟩ (.slice (some ⟨g, 0, none⟩) (N + 1) cap))) := Lib.hid (by
    subst hN
    refine H1.out.app v1 v2 v3 v4 ⟨ki, (m1 : Int), (n2 : Int)⟩ hwf b15 own6 grow6 ?_
    rcases at6 with e | e
    · exact .inl e
    · right; have := b15.size; omega)
  have K6 : Hid (KeepsOthers W (W6.setCell ⟨s + 1, 32, none⟩ (.slice (some ⟨g, 0, none⟩) (N + 1) cap))) := Lib.hid ((HW.out.trans (keeps_later b15)).trans ((KeepsOthers.of_grownBy grow6 (own_cells own5)).trans (KeepsOthers.setCell _ _ _)))
  obtain ⟨W7, hW7⟩ : ∃ W7, W6.setCell ⟨s + 1, 32, none⟩ (.slice (some ⟨g, 0, none⟩) (N + 1) cap) = W7 := ⟨_, rfl⟩
  rw [hW7] at P6 K6
  rw [hW7]
  refine hK _ _ (fun h => absurd rfl h) ?_
  clear hK K
  clear hW7 hS6 fz6 fc6 own6 grow6 at6 lt6 hS5 fz5 own5 own2 v1 v2 v3 v4 hS4 hS3 hS2 b15 b25 b24 b45 b3 b4 blk5 there2 E2 B2 bA
  have c0 := P6.out.cnt.cell
  have f0 := P6.out.cnt.frozen
  refine wpT_done (by kernel_rfl) ?_
  gi_wp2
  exact ⟨K6.out.trans (KeepsOthers.setCell _ _ _), P6.out.count⟩
end Go.Proofs.YtnfkimhhgflfjaaDoor.Rep
