/-
  TasksHome: the call: whatever the goal, it returns true, and touches nothing that was there.
-/
import Derived.Test.YtldjfokgfapkiaaGreatDoorHmLaw
import Derived.Test.YtldjfokgfapkiaaGreatDoorHmFar
namespace Go.Proofs.YtldjfokgfapkiaaGreatDoor
open Go Go.Ab
open Go.RowKit (Below)
set_option maxRecDepth 100000
namespace Hm

theorem split_loop : ∀ (l : List Code), (∃ i b, .block i (.loop b) ∈ l) → l = takeTo l ++ .block (findId l) (.loop (findLoop l)) :: behind l
  | [], h => by obtain ⟨i, b, h⟩ := h; simp at h
  | c :: r, h => by
    by_cases hc : ∃ i b, c = .block i (.loop b)
    · obtain ⟨i, b, rfl⟩ := hc; rfl
    · have hr : ∃ i b, .block i (.loop b) ∈ r := by
        obtain ⟨i, b, h⟩ := h
        rcases List.mem_cons.1 h with h | h
        · exact absurd ⟨i, b, h.symm⟩ hc
        · exact ⟨i, b, h⟩
      have ih := split_loop r hr
      have e1 : takeTo (c :: r) = c :: takeTo r := by
        conv => lhs; unfold takeTo
        split
        · rename_i h; cases h
        · rename_i h; cases h; exact absurd ⟨_, _, rfl⟩ hc
        · rename_i h; cases h; rfl
      have e2 : findId (c :: r) = findId r := by
        conv => lhs; unfold findId
        split
        · rename_i h; cases h
        · rename_i h; cases h; exact absurd ⟨_, _, rfl⟩ hc
        · rename_i h; cases h; rfl
      have e3 : findLoop (c :: r) = findLoop r := by
        conv => lhs; unfold findLoop
        split
        · rename_i h; cases h
        · rename_i h; cases h; exact absurd ⟨_, _, rfl⟩ hc
        · rename_i h; cases h; rfl
      have e4 : behind (c :: r) = behind r := by
        conv => lhs; unfold behind
        split
        · rename_i h; cases h
        · rename_i h; cases h; exact absurd ⟨_, _, rfl⟩ hc
        · rename_i h; cases h; rfl
      rw [e1, e2, e3, e4, List.cons_append, ← ih]

def isLoop : Code → Bool
  | .block _ (.loop _) => true
  | _ => false
theorem isLoop_spec {c : Code} (h : isLoop c = true) : ∃ i b, c = .block i (.loop b) := by
  unfold isLoop at h; split at h
  · exact ⟨_, _, rfl⟩
  · cases h
theorem sp_loop : sp.any isLoop = true := by kernel_rfl
theorem sp_split : sp = takeTo sp ++ .block (findId sp) (.loop (findLoop sp)) :: behind sp :=
  split_loop sp (by
    obtain ⟨c, hc, h⟩ := List.any_eq_true.1 sp_loop
    obtain ⟨i, b, rfl⟩ := isLoop_spec h
    exact ⟨i, b, hc⟩)

theorem mixed : Tryz.prog.follows .mixedOrders = true := by kernel_rfl
theorem trunc : TruncAt Tryz.prog 102 := ⟨⟨_, rfl, rfl, by kernel_rfl, by kernel_rfl, by kernel_rfl⟩⟩

variable {re im : Int} {ρ : Nat → Int} {B : Nat} {W : World} {a : Act} {w : World} {fn : Func}

/-- What the call comes to. -/
abbrev Fin (B : Nat) (W : World) : Ending → World → Prop := fun e w' => e = .returned (.bool true) ∧ Below B W w'
abbrev Qf (fn : Func) (B : Nat) (W : World) : Exit → Act → World → Prop := bodyPost Tryz.prog fn (Fin B W)
abbrev Qb (fn : Func) (B : Nat) (W : World) : Exit → Act → World → Prop := Exit.inBlock (findId sp) (Exit.then (LW Tryz.prog (behind sp) (Qf fn B W)) (Qf fn B W))

theorem step {σ : List SI} {rl : List Nat} {x y : Ab.Lit} {k : Nat} (hr : -100 ≤ re ∧ re ≤ 100) (hi : -100 ≤ im ∧ im ≤ 100) (hJ : J re im k ρ) (h6 : ρ 6 ≤ 59) (h : turns 5 x σ rl y = true) (hx : Lits B 6 ρ x a w)
    (hW : Below B W w) (hk : ∀ a' w', Lits B 6 (newρ σ ρ) y a' w' → Below B W w' → LoopWp Tryz.prog (findLoop sp) (Qb fn B W) a' w') : LoopWp Tryz.prog (findLoop sp) (Qb fn B W) a w :=
  LW.rounds (k := 5) (chunk_ok (hJ.env hr hi h6) (hTrunc_ok (hJ.env hr hi h6) trunc) mixed h hx fun a' w' h1 h2 => hk a' w' h1 (hW.trans h2))

theorem words {f : Nat → Int} (h9 : 0 ≤ f 9 ∧ f 9 ≤ 18446744073709551615) (h10 : 0 ≤ f 10 ∧ f 10 ≤ 18446744073709551615) (h11 : 0 ≤ f 11 ∧ f 11 ≤ 18446744073709551615) (h12 : 0 ≤ f 12 ∧ f 12 ≤ 18446744073709551615)
    (h13 : 0 ≤ f 13 ∧ f 13 ≤ 18446744073709551615) (h14 : 0 ≤ f 14 ∧ f 14 ≤ 18446744073709551615) (h15 : 0 ≤ f 15 ∧ f 15 ≤ 18446744073709551615) : ∀ i, 9 ≤ i → i < 16 → 0 ≤ f i ∧ f i ≤ 18446744073709551615 := by
  intro i h1 h2
  obtain rfl | rfl | rfl | rfl | rfl | rfl | rfl : i = 9 ∨ i = 10 ∨ i = 11 ∨ i = 12 ∨ i = 13 ∨ i = 14 ∨ i = 15 := by omega
  all_goals assumption

theorem bool_rels {φ : PM} {us : List Value} (h : VRels ρ φ [.bool true] us) : us = [.bool true] := by
  cases h with
  | cons _ u _ us h h' => cases h with | bool _ => cases h'; rfl

theorem saysTrue_spec {r : Option ((AX × AAct) × St)} (h : saysTrue r = true) : ∃ A' s' fn s2, r = some ((.ret, A'), s') ∧ Tryz.prog.funcs[3]? = some fn ∧ aResults Tryz.prog A' fn.results.toList s' = some ([.bool true], s2) := by
  unfold saysTrue at h
  split at h
  · split at h
    · split at h
      · exact ⟨_, _, _, _, rfl, by assumption, by assumption⟩
      · cases h
    · cases h
  · cases h

/-- Behind the last turn. -/
theorem last (hfn : Tryz.prog.funcs[3]? = some fn) (hr : -100 ≤ re ∧ re ≤ 100) (hi : -100 ≤ im ∧ im ≤ 100) (hK : K re im 59 ρ) (hx : Lits B 6 ρ SG a w) (hW : Below B W w) :
    LoopWp Tryz.prog (findLoop sp) (Qb fn B W) a w := by
  obtain ⟨p1, p2, p3⟩ := there re hr.1 hr.2
  obtain ⟨q1, q2, q3⟩ := there im hi.1 hi.2
  have e2 : ρ 2 = ρ 0 := by rw [hK.h2, hK.h0]; exact p1
  have e3 : ρ 3 = ρ 1 := by rw [hK.h3, hK.h1]; exact q1
  have e4 : ρ 4 = 0 := by rw [hK.h4]; exact p2
  have e5 : ρ 5 = 0 := by rw [hK.h5]; exact q2
  have e6 : ρ 6 = 60 := by rw [hK.hk]; rfl
  have e7 : ρ 7 = 0 := by rw [hK.was]; exact p3
  have e8 : ρ 8 = 0 := by rw [hK.was']; exact q3
  have e9 : ρ 9 = 0 := by rw [hK.word, e7, e8]; rfl
  have hτ : newρ tau ρ = ρ := by
    funext i
    match i with
    | 0 => exact Int.add_zero _
    | 1 => exact Int.add_zero _
    | 2 => exact (Int.add_zero _).trans e2.symm
    | 3 => exact (Int.add_zero _).trans e3.symm
    | 4 => exact e4.symm
    | 5 => exact e5.symm
    | 6 => exact e6.symm
    | 7 => exact e7.symm
    | 8 => exact e8.symm
    | 9 => exact e9.symm
    | i + 10 => unfold newρ; rw [List.getElem?_eq_none (by simp [tau])]
  have hE : EnvOk ρ enL := by
    intro i lo hi' hx
    have h0 := hK.h0; have h1 := hK.h1
    match i, hx with
    | 0, hx | 1, hx => simp [enL] at hx; omega
    | i + 2, hx => rw [List.getElem?_eq_none (by simp [enL])] at hx; cases hx
  obtain ⟨A', s', fn', s2, hrun, hfn', hres⟩ := saysTrue_spec L_ok
  obtain rfl := Option.some.inj (hfn.symm.trans hfn')
  refine last_ok hE (hTrunc_ok hE trunc) mixed hrun (hx.sub hτ) fun φ' a' w' hA hH hb => ?_
  obtain ⟨_, _, us, hus, hvs⟩ := results_ok (P := Tryz.prog) (B := B) fn.results.toList A' _ s' s2 φ' a' w' hres hH hA
  obtain rfl := bool_rels hvs
  have hres : (results fn a'.tmps).run Tryz.prog w' = .ok (.bool true) w' := by
    rw [results_eq, Array.mapM_eq_mapM_toList]
    simp only [Sem.run_bind, Sem.run_map, hus, Result.andThen_ok, Sem.run_pure]
    rfl
  exact ⟨hA.defers, _, hres, rfl, hW.trans hb⟩

/-- From the fourth turn on. -/
theorem from_four (hfn : Tryz.prog.funcs[3]? = some fn) (hr : -100 ≤ re ∧ re ≤ 100) (hi : -100 ≤ im ∧ im ≤ 100) : ∀ (n k : Nat) (ρ : Nat → Int) (a : Act) (w : World), k + n = 59 → 3 ≤ k → K re im k ρ → Lits B 6 ρ SG a w → Below B W w →
    LoopWp Tryz.prog (findLoop sp) (Qb fn B W) a w
  | 0, k, ρ, a, w, hn, _, hK, hx, hW => by
    obtain rfl : k = 59 := by omega
    exact last hfn hr hi hK hx hW
  | n + 1, k, ρ, a, w, hn, hk3, hK, hx, hW => by
    have hk := hK.hk
    have b1 := bound re hr.1 hr.2 (k + 1)
    have b2 := bound im hi.1 hi.2 (k + 1)
    refine step (σ := T_sg) hr hi hK.toJ (by omega) T_ok hx hW fun a' w' hx' hW' => ?_
    have f6 : newρ T_sg ρ 6 = ρ 6 + 1 := rfl
    have f7 : newρ T_sg ρ 7 = ρ 4 := Int.add_zero _
    have f8 : newρ T_sg ρ 8 = ρ 5 := Int.add_zero _
    have f9 : newρ T_sg ρ 9 = SOp.val .pk (ρ 4) (ρ 5) := by show SOp.val .pk (ρ 4 + 0) (ρ 5 + 0) = _; rw [Int.add_zero, Int.add_zero]
    have hJ := J.turn (σ := T_sg) hK.toJ (Int.add_zero _) (Int.add_zero _) (by show ρ 2 + 0 + (ρ 4 + 0) = _; omega) (by show ρ 3 + 0 + (ρ 5 + 0) = _; omega)
      (by show SOp.val .mx (-4) (SOp.val .mn 4 (ρ 0 + 0 - (ρ 2 + 0 + (ρ 4 + 0)))) = _; simp only [Int.add_zero]) (by show SOp.val .mx (-4) (SOp.val .mn 4 (ρ 1 + 0 - (ρ 3 + 0 + (ρ 5 + 0)))) = _; simp only [Int.add_zero])
      (by have := hK.h6; omega) (by rw [f7, hK.h4]; omega) (by rw [f8, hK.h5]; omega)
      (words (by rw [f9]; exact pk_range _ _) (by have := hK.hw 12 (by decide) (by decide); show 0 ≤ ρ 12 + 0 ∧ ρ 12 + 0 ≤ _; omega) (by have := hK.hw 13 (by decide) (by decide); show 0 ≤ ρ 13 + 0 ∧ ρ 13 + 0 ≤ _; omega)
        (by have := hK.hw 14 (by decide) (by decide); show 0 ≤ ρ 14 + 0 ∧ ρ 14 + 0 ≤ _; omega) (by have := hK.hw 9 (by decide) (by decide); show 0 ≤ ρ 9 + 0 ∧ ρ 9 + 0 ≤ _; omega) (pk_range _ _)
        (by have := hK.hw 11 (by decide) (by decide); show 0 ≤ ρ 11 + 0 ∧ ρ 11 + 0 ≤ _; omega))
    exact from_four hfn hr hi n (k + 1) _ a' w' (by omega) (by omega)
      { hJ with hk := by rw [f6, hk]; rfl, was := by rw [f7, hK.h4], was' := by rw [f8, hK.h5], word := by rw [f9, f7, f8] } hx' hW'

/-- From the first turn on. -/
theorem from_first (hfn : Tryz.prog.funcs[3]? = some fn) (hr : -100 ≤ re ∧ re ≤ 100) (hi : -100 ≤ im ∧ im ≤ 100) (hJ0 : J re im 0 ρ) (h6 : ρ 6 = 4) (hx : Lits B 6 ρ S0 a w) (hW : Below B W w) :
    LoopWp Tryz.prog (findLoop sp) (Qb fn B W) a w := by
  refine step (σ := S1_sg) hr hi hJ0 (by omega) S1_ok hx hW fun a1 w1 hx1 hW1 => ?_
  have z2 : ρ 2 = 0 := hJ0.h2
  have z3 : ρ 3 = 0 := hJ0.h3
  have z4 : ρ 4 = 0 := hJ0.h4
  have z5 : ρ 5 = 0 := hJ0.h5
  have hJ1 := J.turn (σ := S1_sg) hJ0 (Int.add_zero _) (Int.add_zero _) (by show ρ 2 + 0 = _; omega) (by show ρ 3 + 0 = _; omega)
    (by show SOp.val .mx (-4) (SOp.val .mn 4 (ρ 0 + 0)) = _; rw [z2, z4]; simp only [Int.add_zero, Int.sub_zero]) (by show SOp.val .mx (-4) (SOp.val .mn 4 (ρ 1 + 0)) = _; rw [z3, z5]; simp only [Int.add_zero, Int.sub_zero])
    (by show 4 ≤ ρ 6 + 0; omega) (by have := hJ0.h7; show -4 ≤ ρ 7 + 0 ∧ ρ 7 + 0 ≤ 4; omega) (by have := hJ0.h8; show -4 ≤ ρ 8 + 0 ∧ ρ 8 + 0 ≤ 4; omega)
    (words (by have := hJ0.hw 9 (by decide) (by decide); show 0 ≤ ρ 9 + 0 ∧ ρ 9 + 0 ≤ _; omega) (by have := hJ0.hw 10 (by decide) (by decide); show 0 ≤ ρ 10 + 0 ∧ ρ 10 + 0 ≤ _; omega)
      (by have := hJ0.hw 11 (by decide) (by decide); show 0 ≤ ρ 11 + 0 ∧ ρ 11 + 0 ≤ _; omega) (by have := hJ0.hw 12 (by decide) (by decide); show 0 ≤ ρ 12 + 0 ∧ ρ 12 + 0 ≤ _; omega)
      (by have := hJ0.hw 13 (by decide) (by decide); show 0 ≤ ρ 13 + 0 ∧ ρ 13 + 0 ≤ _; omega) (by have := hJ0.hw 14 (by decide) (by decide); show 0 ≤ ρ 14 + 0 ∧ ρ 14 + 0 ≤ _; omega)
      (by have := hJ0.hw 15 (by decide) (by decide); show 0 ≤ ρ 15 + 0 ∧ ρ 15 + 0 ≤ _; omega))
  have g6 : newρ S1_sg ρ 6 = 4 := by show ρ 6 + 0 = 4; omega
  clear hx hJ0 z3 z5
  generalize hg : newρ S1_sg ρ = ρ1 at hx1 hJ1 g6
  clear hg h6 z2 z4
  refine step (σ := S2_sg) hr hi hJ1 (by omega) S2_ok hx1 hW1 fun a2 w2 hx2 hW2 => ?_
  have z2 : ρ1 2 = 0 := hJ1.h2
  have z3 : ρ1 3 = 0 := hJ1.h3
  have hJ2 := J.turn (σ := S2_sg) hJ1 (Int.add_zero _) (Int.add_zero _) (by show ρ1 4 + 0 = _; omega) (by show ρ1 5 + 0 = _; omega)
    (by show SOp.val .mx (-4) (SOp.val .mn 4 (ρ1 0 + 0 - (ρ1 4 + 0))) = _; rw [z2]; simp only [Int.add_zero, Int.zero_add]) (by show SOp.val .mx (-4) (SOp.val .mn 4 (ρ1 1 + 0 - (ρ1 5 + 0))) = _; rw [z3]; simp only [Int.add_zero, Int.zero_add])
    (by show 4 ≤ ρ1 6 + 0; omega) (by have := hJ1.h7; show -4 ≤ ρ1 7 + 0 ∧ ρ1 7 + 0 ≤ 4; omega) (by have := hJ1.h8; show -4 ≤ ρ1 8 + 0 ∧ ρ1 8 + 0 ≤ 4; omega)
    (words (by have := hJ1.hw 9 (by decide) (by decide); show 0 ≤ ρ1 9 + 0 ∧ ρ1 9 + 0 ≤ _; omega) (by have := hJ1.hw 10 (by decide) (by decide); show 0 ≤ ρ1 10 + 0 ∧ ρ1 10 + 0 ≤ _; omega)
      (by have := hJ1.hw 11 (by decide) (by decide); show 0 ≤ ρ1 11 + 0 ∧ ρ1 11 + 0 ≤ _; omega) (by have := hJ1.hw 12 (by decide) (by decide); show 0 ≤ ρ1 12 + 0 ∧ ρ1 12 + 0 ≤ _; omega)
      (by have := hJ1.hw 13 (by decide) (by decide); show 0 ≤ ρ1 13 + 0 ∧ ρ1 13 + 0 ≤ _; omega) (by have := hJ1.hw 14 (by decide) (by decide); show 0 ≤ ρ1 14 + 0 ∧ ρ1 14 + 0 ≤ _; omega)
      (by have := hJ1.hw 15 (by decide) (by decide); show 0 ≤ ρ1 15 + 0 ∧ ρ1 15 + 0 ≤ _; omega))
  have g6' : newρ S2_sg ρ1 6 = 4 := by show ρ1 6 + 0 = 4; omega
  clear hx1 hJ1 z3 z2
  generalize hg : newρ S2_sg ρ1 = ρ2 at hx2 hJ2 g6'
  clear hg g6
  have b1 := bound re hr.1 hr.2 (0 + 1 + 1)
  have b2 := bound im hi.1 hi.2 (0 + 1 + 1)
  refine step (σ := S3_sg) hr hi hJ2 (by omega) S3_ok hx2 hW2 fun a3 w3 hx3 hW3 => ?_
  have hJ3 := J.turn (σ := S3_sg) hJ2 (Int.add_zero _) (Int.add_zero _) (by show ρ2 2 + 0 + (ρ2 4 + 0) = _; omega) (by show ρ2 3 + 0 + (ρ2 5 + 0) = _; omega)
    (by show SOp.val .mx (-4) (SOp.val .mn 4 (ρ2 0 + 0 - (ρ2 2 + 0 + (ρ2 4 + 0)))) = _; simp only [Int.add_zero]) (by show SOp.val .mx (-4) (SOp.val .mn 4 (ρ2 1 + 0 - (ρ2 3 + 0 + (ρ2 5 + 0)))) = _; simp only [Int.add_zero])
    (by show 4 ≤ ρ2 6 + 0; omega) (by have := hJ2.h4; show -4 ≤ ρ2 4 + 0 ∧ ρ2 4 + 0 ≤ 4; omega) (by have := hJ2.h5; show -4 ≤ ρ2 5 + 0 ∧ ρ2 5 + 0 ≤ 4; omega)
    (words (pk_range _ _) (pk_range _ _)
      (by have := hJ2.hw 11 (by decide) (by decide); show 0 ≤ ρ2 11 + 0 ∧ ρ2 11 + 0 ≤ _; omega) (by have := hJ2.hw 12 (by decide) (by decide); show 0 ≤ ρ2 12 + 0 ∧ ρ2 12 + 0 ≤ _; omega)
      (by have := hJ2.hw 13 (by decide) (by decide); show 0 ≤ ρ2 13 + 0 ∧ ρ2 13 + 0 ≤ _; omega) (by have := hJ2.hw 14 (by decide) (by decide); show 0 ≤ ρ2 14 + 0 ∧ ρ2 14 + 0 ≤ _; omega)
      (by have := hJ2.hw 15 (by decide) (by decide); show 0 ≤ ρ2 15 + 0 ∧ ρ2 15 + 0 ≤ _; omega))
  have g6 : newρ S3_sg ρ2 6 = 4 := by show ρ2 6 + 0 = 4; omega
  clear hx2 hJ2
  generalize hg : newρ S3_sg ρ2 = ρ3 at hx3 hJ3 g6
  clear hg g6' b1 b2
  have b1 := bound re hr.1 hr.2 (0 + 1 + 1 + 1)
  have b2 := bound im hi.1 hi.2 (0 + 1 + 1 + 1)
  refine step (σ := SG_sg) hr hi hJ3 (by omega) SG_ok hx3 hW3 fun a4 w4 hx4 hW4 => ?_
  have f7 : newρ SG_sg ρ3 7 = ρ3 4 := Int.add_zero _
  have f8 : newρ SG_sg ρ3 8 = ρ3 5 := Int.add_zero _
  have f9 : newρ SG_sg ρ3 9 = SOp.val .pk (ρ3 4) (ρ3 5) := by show SOp.val .pk (ρ3 4 + 0) (ρ3 5 + 0) = _; rw [Int.add_zero, Int.add_zero]
  have hJ4 := J.turn (σ := SG_sg) hJ3 (Int.add_zero _) (Int.add_zero _) (by show ρ3 2 + 0 + (ρ3 4 + 0) = _; omega) (by show ρ3 3 + 0 + (ρ3 5 + 0) = _; omega)
    (by show SOp.val .mx (-4) (SOp.val .mn 4 (ρ3 0 + 0 - (ρ3 2 + 0 + (ρ3 4 + 0)))) = _; simp only [Int.add_zero]) (by show SOp.val .mx (-4) (SOp.val .mn 4 (ρ3 1 + 0 - (ρ3 3 + 0 + (ρ3 5 + 0)))) = _; simp only [Int.add_zero])
    (by show (4 : Int) ≤ 4; omega) (by have := hJ3.h4; rw [f7]; omega) (by have := hJ3.h5; rw [f8]; omega)
    (words (pk_range _ _) (by show (0 : Int) ≤ 0 ∧ (0 : Int) ≤ _; omega)
      (by have := hJ3.hw 10 (by decide) (by decide); show 0 ≤ ρ3 10 + 0 ∧ ρ3 10 + 0 ≤ _; omega) (by have := hJ3.hw 10 (by decide) (by decide); show 0 ≤ ρ3 10 + 0 ∧ ρ3 10 + 0 ≤ _; omega)
      (by have := hJ3.hw 9 (by decide) (by decide); show 0 ≤ ρ3 9 + 0 ∧ ρ3 9 + 0 ≤ _; omega) (pk_range _ _) (by show (0 : Int) ≤ 0 ∧ (0 : Int) ≤ _; omega))
  exact from_four hfn hr hi 56 3 _ a4 w4 rfl (by decide) { hJ4 with hk := rfl, was := by rw [f7, hJ3.h4], was' := by rw [f8, hJ3.h5], word := by rw [f9, f7, f8] } hx4 hW4

/- AS THE CALL BEGINS -/
/-- The two tables lie where they lie. -/
structure Tables (W : World) : Prop where
  fields : ∃ C T fz, W.heap[0]? = some (.cells C T fz) ∧ C.toList = fieldsL.map (.int .i64 ·)
  ways : ∃ C T fz, W.heap[2]? = some (.cells C T fz) ∧ C.toList = waysL.map (.int .i64 ·)

theorem ints_rel {φ : PM} : ∀ l : List Int, VRels ρ φ (ints l) (l.map (.int .i64 ·))
  | [] => .nil
  | _ :: l => .cons _ _ _ _ (.int _ _ _ rfl) (ints_rel l)
theorem ints_length (l : List Int) : (ints l).length = l.length := by simp [ints]

def sz (W : World) (b : Nat) : Nat := match W.heap[b]? with | some (.cells C _ _) => C.size | _ => 0
def φ0 (W : World) : PM := fun l => if l < 6 then some (l, sz W l) else none

theorem H0_get {l : Nat} {o : AObj} (h : H0.get l = some o) : (l = 0 ∧ o = .cells true false 3 (ints fieldsL)) ∨ (l = 2 ∧ o = .cells true false 3 (ints waysL)) := by
  unfold H0 at h
  rw [Tr.get_set] at h
  split at h
  · rename_i e; simp only [Option.some.injEq] at h; exact .inr ⟨e, h.symm⟩
  · rw [Tr.get_set] at h
    split at h
    · rename_i e; simp only [Option.some.injEq] at h; exact .inl ⟨e, h.symm⟩
    · simp [Tr.get_leaf] at h

theorem row_rel {φ : PM} {C : Array Value} {T : TypeId} {fz : Nat × Nat} {l : List Int} (h : C.toList = l.map (.int .i64 ·)) : ORel ρ φ (.cells true false 3 (ints l)) C.size (.cells C T fz) := by
  have hs : C.size = l.length := by rw [← Array.length_toList, h, List.length_map]
  refine ⟨(fun h => by cases h), rfl, (fun _ => by rw [ints_length, hs]), (by rw [ints_length, hs]; exact Nat.le_refl _), ?_, (fun h => by cases h)⟩
  rw [ints_length, List.take_of_length_le (by rw [Array.length_toList, hs]; exact Nat.le_refl _), h]
  exact ints_rel l

theorem start (hT : Tables W) : HRel W.heap.size ρ (φ0 W) H0.get W ∧ GOk 6 (φ0 W) ∧ (∀ m, Fresh (φ0 W) 6 m) ∧ Good ⟨H0, 6, 0, []⟩ := by
  refine ⟨⟨Nat.le_refl _, fun l o ho _ => ?_, fun l l' o o' b N N' _ _ _ _ h1 h2 => ?_⟩, fun g hg => ⟨sz W g, by simp [φ0, hg]⟩, fun m l h1 h2 => by simp [φ0]; omega, Nat.zero_le _, fun l o ho => ?_⟩
  · rcases H0_get ho with ⟨rfl, rfl⟩ | ⟨rfl, rfl⟩
    · obtain ⟨C, T, fz, h1, h2⟩ := hT.fields
      exact ⟨0, C.size, _, by simp [φ0, sz, h1], h1, row_rel h2, (fun h => by cases h)⟩
    · obtain ⟨C, T, fz, h1, h2⟩ := hT.ways
      exact ⟨2, C.size, _, by simp [φ0, sz, h1], h1, row_rel h2, (fun h => by cases h)⟩
  · unfold φ0 at h1 h2
    split at h1 <;> split at h2 <;> simp_all
  · rcases H0_get ho with ⟨rfl, _⟩ | ⟨rfl, _⟩ <;> (show _ < 6; decide)

def ρ0 (re im : Int) : Nat → Int := fun i => if i = 0 then re else if i = 1 then im else if i = 6 then 4 else 0

theorem args_rel {φ : PM} (h0 : ρ 0 = re) (h1 : ρ 1 = im) : VRels ρ φ [.int .i64 (.v 0 0), .int .i64 (.v 1 0)] [.int .i64 re, .int .i64 im] :=
  .cons _ _ _ _ (.int _ _ _ (by simp [SI.val, h0])) (.cons _ _ _ _ (.int _ _ _ (by simp [SI.val, h1])) .nil)

theorem near (hT : Tables W) (hr : -100 ≤ re ∧ re ≤ 100) (hi : -100 ≤ im ∧ im ≤ 100) : Calls Tryz.prog 3 #[.int .i64 re, .int .i64 im] W (Fin W.heap.size W) := by
  have hJ : J re im 0 (ρ0 re im) := ⟨rfl, rfl, rfl, rfl, rfl, rfl, by show (4 : Int) ≤ 4; omega, by show (-4 : Int) ≤ 0 ∧ (0 : Int) ≤ 4; omega, by show (-4 : Int) ≤ 0 ∧ (0 : Int) ≤ 4; omega,
    words (by show (0 : Int) ≤ 0 ∧ (0 : Int) ≤ _; omega) (by show (0 : Int) ≤ 0 ∧ (0 : Int) ≤ _; omega) (by show (0 : Int) ≤ 0 ∧ (0 : Int) ≤ _; omega) (by show (0 : Int) ≤ 0 ∧ (0 : Int) ≤ _; omega)
      (by show (0 : Int) ≤ 0 ∧ (0 : Int) ≤ _; omega) (by show (0 : Int) ≤ 0 ∧ (0 : Int) ≤ _; omega) (by show (0 : Int) ≤ 0 ∧ (0 : Int) ≤ _; omega)⟩
  have hE := hJ.env hr hi (by show (4 : Int) ≤ 59; omega)
  cases hfn : Tryz.prog.funcs[3]? with
  | none => exact absurd (Tryz.func3.symm.trans hfn) (by simp)
  | some fn =>
    cases hb : fn.body with
    | none =>
      obtain rfl := Option.some.inj (Tryz.func3.symm.trans hfn)
      have hs : Tryz.f3.body.isNone = false := by kernel_rfl
      rw [hb] at hs
      cases hs
    | some c =>
      have hsp : sp = Go.Ab.spine c := by simp [sp, hfn, hb]
      refine calls_of_wp hfn hb (LW.code c ?_)
      rw [← hsp, sp_split]
      obtain ⟨s1, s2, s3, s4⟩ := start (ρ := ρ0 re im) hT
      have hn : fn.ntmps = 169 := by obtain rfl := Option.some.inj (Tryz.func3.symm.trans hfn); rfl
      have hA := init_ok (ρ := ρ0 re im) (φ := φ0 W) (n := fn.ntmps) (cargs := #[.int .i64 re, .int .i64 im]) (args_rel rfl rfl)
      have hA0 : ARel (ρ0 re im) (φ0 W) A0 { tmps := #[.int .i64 re, .int .i64 im] ++ Array.replicate (fn.ntmps - 2) undef, defers := [] } := by
        have e : A0 = ⟨[AV.int .i64 (.v 0 0), AV.int .i64 (.v 1 0)].length + (fn.ntmps - [AV.int .i64 (.v 0 0), AV.int .i64 (.v 1 0)].length), initTm 0 [.int .i64 (.v 0 0), .int .i64 (.v 1 0)] .leaf⟩ := by rw [hn]; rfl
        rw [e]; exact hA
      have run := LW.split (chunk_ok (Q := fun e a w => e = .normal ∧ LoopWp Tryz.prog (findLoop sp) (Qb fn W.heap.size W) a w) hE (hTrunc_ok hE trunc) mixed S0_ok ⟨φ0 W, s1, hA0, s2, s3, s4⟩
        fun a' w' hx hW => ⟨rfl, from_first hfn hr hi hJ rfl (by
          have e : newρ S0_sg (ρ0 re im) = ρ0 re im := by funext i; simp [newρ, S0_sg]
          rw [e] at hx; exact hx) hW⟩)
      refine LW.append (LW.mono run fun e a w h => ?_)
      have stop : e = .normal → LW Tryz.prog (.block (findId sp) (.loop (findLoop sp)) :: behind sp) (Qf fn W.heap.size W) a w := by
        rintro rfl
        refine wp_block (LoopWp.wp (LW.rounds (k := 4) (LW.mono h fun e a w h => ?_)))
        obtain ⟨rfl, h⟩ := h
        exact h
      cases e with
      | normal => exact stop rfl
      | _ => exact absurd h.1 (by simp)

theorem env2 {l1 h1 l2 h2 : Int} (a : l1 ≤ re ∧ re ≤ h1) (b : l2 ≤ im ∧ im ≤ h2) : EnvOk (ρ0 re im) [(l1, h1), (l2, h2)] := by
  intro i lo hi hx
  match i, hx with
  | 0, hx => simp at hx; obtain ⟨rfl, rfl⟩ := hx; exact a
  | 1, hx => simp at hx; obtain ⟨rfl, rfl⟩ := hx; exact b
  | i + 2, hx => simp at hx

theorem far_of {en : Env} (hT : Tables W) (hE : EnvOk (ρ0 re im) en) (h : isTrue (farRun en) = true) : Calls Tryz.prog 3 #[.int .i64 re, .int .i64 im] W (Fin W.heap.size W) := by
  obtain ⟨s1, s2, s3, s4⟩ := start (ρ := ρ0 re im) hT
  cases hrun : farRun en with
  | none => rw [hrun] at h; cases h
  | some r =>
    obtain ⟨v, s'⟩ := r
    rw [hrun] at h
    obtain rfl : v = .bool true := by
      unfold isTrue at h; split at h
      · rename_i e; cases e; rfl
      · cases h
    refine (calls_of_reckon (B := W.heap.size) hE noHook_ok mixed hrun s4 (args_rel rfl rfl) s2 s1 (s3 _)).mono fun e w' ⟨φ', u, h1, h2, _, h3⟩ => ⟨?_, h3⟩
    cases h2
    exact h1

/-- THE CALL. -/
theorem home (hT : Tables W) (hr : -9223372036854775808 ≤ re ∧ re ≤ 9223372036854775807) (hi : -9223372036854775808 ≤ im ∧ im ≤ 9223372036854775807) :
    Calls Tryz.prog 3 #[.int .i64 re, .int .i64 im] W (Fin W.heap.size W) := by
  by_cases h1 : re < -100
  · exact far_of hT (env2 ⟨hr.1, by omega⟩ hi) far1
  · by_cases h2 : 100 < re
    · exact far_of hT (env2 ⟨by omega, hr.2⟩ hi) far2
    · by_cases h3 : im < -100
      · exact far_of hT (env2 ⟨by omega, by omega⟩ ⟨hi.1, by omega⟩) far3
      · by_cases h4 : 100 < im
        · exact far_of hT (env2 ⟨by omega, by omega⟩ ⟨by omega, hi.2⟩) far4
        · exact near hT ⟨by omega, by omega⟩ ⟨by omega, by omega⟩
end Hm
end Go.Proofs.YtldjfokgfapkiaaGreatDoor
