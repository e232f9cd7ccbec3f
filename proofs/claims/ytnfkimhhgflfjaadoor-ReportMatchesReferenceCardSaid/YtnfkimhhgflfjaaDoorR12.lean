/- A round of report.Parse, walked. -/
import Derived.Test.YtnfkimhhgflfjaaDoorR11
namespace Go.Proofs.YtnfkimhhgflfjaaDoor.Rep
open Go Go.RowKit Go.Shelf
set_option linter.unusedVariables false
set_option linter.unusedSimpArgs false
attribute [local go_sem] Oper.semAt_some
/-! ### A round of report.Parse -/
def firstRange : Code → Option Code
  | .rangeFunc _ _ _ b => some b
  | .seq a b => match firstRange a with
    | some c => some c
    | none => firstRange b
  | .block _ c => firstRange c
  | .scope c => firstRange c
  | .cond _ a b => match firstRange a with
    | some c => some c
    | none => firstRange b
  | _ => none
/-- The body of the range in report.Parse. -/
noncomputable def pbody : Code := (Tryd.f10.body.bind firstRange).getD .skip
/-- The frame at a round's head. -/
def pframe (S t : ByteArray) (s : Nat) : Act := { tmps := #[.string S, undef, .pointer (some ⟨s, 0, none⟩), .int .i64 0, .pointer (some ⟨s + 1, 0, none⟩), .pointer (some ⟨s + 1 + 1, 0, none⟩), .string t, undef, undef, undef, .string S,
  .func (.func 46) #[] #[.pointer (some ⟨s + 1 + 1 + 1 + 1, 0, none⟩), .pointer (some ⟨s + 1 + 1 + 1, 0, none⟩), .pointer (some ⟨s + 1 + 1 + 1 + 1 + 1, 0, none⟩)],
  .string t, undef, undef, undef, undef, undef, undef, undef, undef, undef, undef, undef, undef, undef, undef, undef, undef, undef, undef, undef, undef, undef, undef, undef, undef, undef, undef, undef, undef, undef, undef, undef, undef, undef, undef, undef, undef, undef, undef, undef, undef, undef, undef, undef, undef, undef, undef, undef, undef, undef, undef, undef, undef, undef, undef, undef, undef, undef, undef], defers := [] }
theorem keeps_later {W W' : World} (hb : Below W.heap.size W W') : KeepsOthers W W' := KeepsOthers.of_grownBy (grown_of_below hb) (fun j o e => by cases e)
theorem pieces_pcs (x : List UInt8) : pieces ⟨x.toArray⟩ = (pcs x).map (fun l => (⟨l.toArray⟩ : ByteArray)) := by
  unfold pcs
  rw [List.map_map]
  conv => lhs; rw [← List.map_id (pieces _)]
  rfl
theorem split_any (x : List UInt8) (hx : x.length ≤ 1000000) (W : World) (hE : Env W) :
    Calls Tryd.prog 23 #[.string ⟨x.toArray⟩, .string ⟨#[32]⟩] W fun e w' => e = .returned (.slice (some ⟨W.heap.size, 0, none⟩) (pcs x).length (pcs x).length) ∧ w' = W.alloc (.cells ((pcs x).map (fun l => Value.string ⟨l.toArray⟩)).toArray 9) := by
  obtain ⟨m, hm⟩ := hE.ml
  have h := Tryd.strings_Split ⟨x.toArray⟩ ⟨#[32]⟩ m W (by show x.length < 4294967281; omega) hm (by decide)
  have hp : pieces ⟨x.toArray⟩ = (pcs x).map (fun l => (⟨l.toArray⟩ : ByteArray)) := pieces_pcs x
  have hl := pieces_len ⟨x.toArray⟩
  rw [hp, List.length_map] at hl
  rw [← hl, show Lib.splitB ⟨#[32]⟩ 0 _ ⟨x.toArray⟩ = pieces ⟨x.toArray⟩ from by unfold pieces; rfl, hp, List.map_map] at h
  exact h
set_option maxRecDepth 100000 in
set_option maxHeartbeats 8000000 in
theorem round_c {w : World} {xs : List (List UInt8)} {y : List UInt8} {s k l : Nat} {v : Vp} {W : World} (h : PI w xs y s k k v W) (S t : ByteArray) (x : List UInt8) (hx : x.length ≤ 1000000)
    (hT : ∀ W, Calls Tryd.prog 24 #[.string t, .string ⟨#[10]⟩] W fun e w' => e = .returned (.string ⟨x.toArray⟩) ∧ w' = W)
    (hk : k ≤ 1000000) (hno : (k = 0 ∧ (pcs x).length ≠ 5) ∨ (0 < k ∧ (pcs x).length ≠ 3)) :
    pbody.wpIn (Fence.wide.inRound l) 3 Tryd.prog (goesOn (fun W' => PI w xs y s (k + 1) k v W') W) (pframe S t s) W := by
  unfold pframe
  conv => arg 4; whnf
  have H := Lib.hid h
  have T := Lib.hid hT
  have SP := Lib.hid (fun W hE => split_any x hx W hE)
  have hlen := pcs_len x
  obtain ⟨n, hn⟩ : ∃ n, (pcs x).length = n := ⟨_, rfl⟩
  obtain ⟨O, hO⟩ : ∃ O : Obj, Obj.cells ((pcs x).map (fun l => Value.string ⟨l.toArray⟩)).toArray 9 (0, 0) = O := ⟨_, rfl⟩
  rw [hn, hO] at SP
  rw [hn] at hno
  obtain ⟨X, hX⟩ : ∃ X : ByteArray, ⟨x.toArray⟩ = X := ⟨_, rfl⟩
  rw [hX] at T SP
  clear h hT hlen hn hO hX
  have H1 := Lib.hid (H.out.alloc O)
  have c0 := H1.out.cnt.cell
  have f0 := H1.out.cnt.frozen
  have HW := Lib.hid (keeps_later ((Below.refl W.heap.size W).alloc (Nat.le_refl _) O))
  rcases hno with ⟨rfl, h5⟩ | ⟨hk0, h3⟩
  · have q1 : ((n : Int) == 5) = false := by rw [beq_eq_false_iff_ne]; omega
    gi_wp2_with (first
      | (refine ⟨trivial, ?_⟩; gi_at_call 24; refine (CallsIn.inRound _ (callsIn_wide.2 (T.out _))).mono ?_; rintro e w' ⟨rfl, rfl⟩)
      | (refine ⟨trivial, ?_⟩; gi_at_call 23; refine (CallsIn.inRound _ (callsIn_wide.2 (SP.out _ H.out.env))).mono ?_; rintro e w' ⟨rfl, rfl⟩))
    exact ⟨HW.out.trans (KeepsOthers.setCell _ _ _), H1.out.count⟩
  · have q1 : ((n : Int) == 3) = false := by rw [beq_eq_false_iff_ne]; omega
    have q2 : ((k : Int) == 0) = false := by rw [beq_eq_false_iff_ne]; omega
    have q3 : (0 : Int) < (k : Int) := by omega
    gi_wp2_with (first
      | (refine ⟨trivial, ?_⟩; gi_at_call 24; refine (CallsIn.inRound _ (callsIn_wide.2 (T.out _))).mono ?_; rintro e w' ⟨rfl, rfl⟩)
      | (refine ⟨trivial, ?_⟩; gi_at_call 23; refine (CallsIn.inRound _ (callsIn_wide.2 (SP.out _ H.out.env))).mono ?_; rintro e w' ⟨rfl, rfl⟩))
    exact ⟨HW.out.trans (KeepsOthers.setCell _ _ _), H1.out.count⟩
/-- A struct stored, in a plain region of a round. -/
theorem wpListIn_store_in {l n : Nat} {ops : Array Oper} {rest : List Oper} {op : Oper} {a : Act} {w : World} {Q : Exit → Act → World → Prop} (hgd : op.guard = none) (x y : Operand) (ho : op.op = .store 30 x y)
    (b : Nat) (cells : List Value) (hx : a.eval x = .pointer (some ⟨b, 0, none⟩)) (hy : a.eval y = .agg cells.toArray) (ht : w.there b 0 33) (hl : cells.length = 33) (h1 : ∀ u ∈ cells, u.oneCell' = true)
    (h : wpListIn (Fence.wide.inRound l) n Tryd.prog ops Q rest (a.put op.dst undef) (w.setCells b 0 cells)) : wpListIn (Fence.wide.inRound l) n Tryd.prog ops Q (op :: rest) a w :=
  wpListIn_plain hgd fun K hK => ⟨fun _ _ => trivial, by
    rw [Fence.inRound_round, Oper.semAt_some l _ _ (by rw [ho]; intro c hc; cases hc)]
    exact upon_in (wp_store_mid (P := Tryd.prog) 30 x y ho b 0 cells.toArray hx hy (by rw [← hl] at ht; exact ht) (by have := size30; rw [← hl] at this; exact this) (all_oneCell_toArray h1) (hK _ _ h))⟩
theorem keeps_cells (b : Nat) : ∀ (vs : List Value) (o : Nat) (W : World), KeepsOthers W (W.setCells b o vs)
  | [], _, W => KeepsOthers.refl W
  | v :: r, o, W => by rw [World.setCells]; exact (KeepsOthers.setCell W ⟨b, o, none⟩ v).trans (keeps_cells b r (o + 1) _)
set_option maxRecDepth 100000 in
set_option maxHeartbeats 8000000 in
theorem round_a {w : World} {xs : List (List UInt8)} {y : List UInt8} {s l : Nat} {v : Vp} {W : World} (h : PI w xs y s 0 0 v W) (S t : ByteArray) (x : List UInt8) (hx : x.length ≤ 1000000)
    (hT : ∀ W, Calls Tryd.prog 24 #[.string t, .string ⟨#[10]⟩] W fun e w' => e = .returned (.string ⟨x.toArray⟩) ∧ w' = W) (h5 : (pcs x).length = 5) :
    pbody.wpIn (Fence.wide.inRound l) 3 Tryd.prog (goesOn (fun W' => PI w xs y s 1 0 (stepV 0 v (pcs x)) W') W) (pframe S t s) W := by
  have hst : stepV 0 v (pcs x) = firstV ((pcs x).getD 1 []) ((pcs x).getD 2 []) ((pcs x).getD 3 []) ((pcs x).getD 4 []) := by unfold stepV; rw [if_pos ⟨rfl, h5⟩]
  rw [hst]
  unfold pframe
  conv => arg 4; whnf
  have H := Lib.hid h
  have T := Lib.hid hT
  have SP := Lib.hid (fun W hE => split_any x hx W hE)
  have hlen := pcs_len x
  have hget : ∀ j, j < 5 → ∃ z, (pcs x)[j]? = some z ∧ (pcs x).getD j [] = z ∧ z.length ≤ 1000000 := fun j hj => by
    refine ⟨(pcs x)[j]'(by omega), List.getElem?_eq_getElem _, ?_, Nat.le_trans (hlen _ (List.getElem_mem _)) hx⟩
    rw [List.getD, List.getElem?_eq_getElem (by omega)]
    rfl
  obtain ⟨l1, a1, b1, c1⟩ := hget 1 (by omega)
  obtain ⟨l2, a2, b2, c2⟩ := hget 2 (by omega)
  obtain ⟨l3, a3, b3, c3⟩ := hget 3 (by omega)
  obtain ⟨l4, a4, b4, c4⟩ := hget 4 (by omega)
  rw [b1, b2, b3, b4]
  have cl : ∀ (j : Nat) z, (pcs x)[j]? = some z → (W.alloc (.cells ((pcs x).map (fun l => Value.string ⟨l.toArray⟩)).toArray 9)).cell? ⟨W.heap.size, j, none⟩ = some (.string ⟨z.toArray⟩) := fun j z hj => by
    rw [World.cell?_alloc_new]; simp [List.getElem?_map, hj]
  have k1 := cl 1 _ a1
  have k2 := cl 2 _ a2
  have k3 := cl 3 _ a3
  have k4 := cl 4 _ a4
  rw [h5] at SP
  have SP : Hid (∀ W, Env W → Calls Tryd.prog 23 #[.string ⟨x.toArray⟩, .string ⟨#[32]⟩] W fun e w' => e = .returned (.slice (some ⟨W.heap.size, 0, none⟩) 5 5) ∧ w' = W.alloc (.cells ((pcs x).map (fun l => Value.string ⟨l.toArray⟩)).toArray 9)) := SP
  obtain ⟨O, hO⟩ : ∃ O : Obj, Obj.cells ((pcs x).map (fun l => Value.string ⟨l.toArray⟩)).toArray 9 (0, 0) = O := ⟨_, rfl⟩
  rw [hO] at SP k1 k2 k3 k4
  obtain ⟨X, hX⟩ : ∃ X : ByteArray, ⟨x.toArray⟩ = X := ⟨_, rfl⟩
  rw [hX] at T SP
  have H1 := Lib.hid (H.out.alloc O)
  have FI := Lib.hid (first_any W.heap.size 5 (by omega) l1 l2 l3 l4 (W.alloc O) H1.out.env (by simp) k1 k2 k3 k4 c1 c2 c4)
  have hfl : Hid ((firstV l1 l2 l3 l4).log = []) := Lib.hid rfl
  obtain ⟨V, hV⟩ : ∃ V, firstV l1 l2 l3 l4 = V := ⟨_, rfl⟩
  rw [hV] at FI hfl ⊢
  clear h hT hlen hO hX hget a1 a2 a3 a4 b1 b2 b3 b4 c1 c2 c3 c4 cl k1 k2 k3 k4 hV hst h5
  have c0 := H1.out.cnt.cell
  have f0 := H1.out.cnt.frozen
  have HW := Lib.hid (keeps_later ((Below.refl W.heap.size W).alloc (Nat.le_refl _) O))
  gi_wp2_with (first
    | (refine ⟨trivial, ?_⟩; gi_at_call 24; refine (CallsIn.inRound _ (callsIn_wide.2 (T.out _))).mono ?_; rintro e w' ⟨rfl, rfl⟩)
    | (refine ⟨trivial, ?_⟩; gi_at_call 23; refine (CallsIn.inRound _ (callsIn_wide.2 (SP.out _ H.out.env))).mono ?_; rintro e w' ⟨rfl, rfl⟩))
  refine ⟨trivial, (CallsIn.inRound _ (callsIn_wide.2 FI.out)).mono ?_⟩
  rintro e w2 ⟨⟨hwf, p, c, rfl, hby, hpb⟩, hb⟩
  have H2 := Lib.hid (H1.out.later hb)
  have KW := Lib.hid (HW.out.trans (keeps_later hb))
  have hone := vcs_one V p c none 0
  have hlen := vcs_len hwf p c none 0
  have hth := (H2.out.bv.choose_spec.choose_spec.choose_spec.choose_spec.1).there
  have P2 : Hid (PI _ xs y s 0 0 V (w2.setCells (s + 1) 0 (vcs V p c none 0))) := Lib.hid (H2.out.first hwf hfl.out hby (fun k a hk ha => Nat.le_trans H1.out.le (hpb k a hk ha)))
  obtain ⟨cs, hcs⟩ : ∃ cs, vcs V p c none 0 = cs := ⟨_, rfl⟩
  rw [hcs] at hone hlen P2
  simp only [hcs]
  clear hcs hby hpb hb
  have c0 := P2.out.cnt.cell
  have f0 := P2.out.cnt.frozen
  gi_wp2_with (first
    | (refine wpListIn_store_in rfl (.tmp 4) (.tmp 25) rfl (s + 1) cs rfl rfl hth hlen hone ?_))
  exact ⟨(KW.out.trans (keeps_cells _ _ _ _)).trans (KeepsOthers.setCell _ _ _), P2.out.count⟩
end Go.Proofs.YtnfkimhhgflfjaaDoor.Rep
