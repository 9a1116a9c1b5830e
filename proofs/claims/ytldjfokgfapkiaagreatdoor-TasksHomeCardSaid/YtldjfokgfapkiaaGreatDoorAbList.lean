/-
  CODE IN PIECES: a list of codes, one behind the other; a loop, round by round.
-/
import Derived.Test.YtldjfokgfapkiaaGreatDoorAbThm
namespace Go.Ab
open Go.RowKit (Below)

/-- A list of codes, one behind the other. -/
def LW (P : Program) : List Code → (Exit → Act → World → Prop) → Act → World → Prop
  | [], Q, a, w => Q .normal a w
  | c :: r, Q, a, w => c.wp P (Exit.then (LW P r Q) Q) a w

section
variable {P : Program} {B : Nat} {ρ : Nat → Int} {en : Env} {G : Nat} {hook : Hook} {call : FuncId → List AV → EM AV}

theorem LW.mono : ∀ {l : List Code} {Q Q' : Exit → Act → World → Prop} {a : Act} {w : World}, LW P l Q a w → (∀ e a w, Q e a w → Q' e a w) → LW P l Q' a w
  | [], _, _, _, _, h, hq => hq _ _ _ h
  | c :: r, Q, Q', a, w, h, hq => by
    refine wp_mono h fun e a w h => ?_
    cases e <;> first | exact LW.mono h hq | exact hq _ _ _ h

theorem LW.append : ∀ {l r : List Code} {Q : Exit → Act → World → Prop} {a : Act} {w : World}, LW P l (Exit.then (LW P r Q) Q) a w → LW P (l ++ r) Q a w
  | [], _, _, _, _, h => h
  | c :: l, r, Q, a, w, h => by
    refine wp_mono h fun e a w h => ?_
    cases e <;> first | exact LW.append h | exact h

/-- Code as a list. -/
def spine : Code → List Code
  | .seq a b => spine a ++ spine b
  | c => [c]

theorem LW.code : ∀ (c : Code) {Q : Exit → Act → World → Prop} {a : Act} {w : World}, LW P (spine c) Q a w → c.wp P Q a w := by
  have base : ∀ (c : Code) {Q : Exit → Act → World → Prop} {a : Act} {w : World}, LW P [c] Q a w → c.wp P Q a w := by
    intro c Q a w h
    refine wp_mono h fun e a w h => ?_
    cases e <;> exact h
  intro c
  induction c with
  | seq x y ihx ihy =>
    intro Q a w h
    have split : ∀ (l r : List Code) (Q : Exit → Act → World → Prop) (a : Act) (w : World), LW P (l ++ r) Q a w → LW P l (Exit.then (LW P r Q) Q) a w := by
      intro l
      induction l with
      | nil => intro r Q a w h; exact h
      | cons c l ih =>
        intro r Q a w h
        refine wp_mono h fun e a w h => ?_
        cases e <;> first | exact ih _ _ _ _ h | exact h
    refine wp_seq (ihx (LW.mono (split _ _ _ _ _ h) fun e a w h => ?_))
    cases e <;> first | exact ihy h | exact h
  | _ => intro Q a w h; exact base _ h

/-- A loop, some rounds at once. -/
theorem LW.rounds {c : Code} {Q : Exit → Act → World → Prop} : ∀ {k : Nat} {a : Act} {w : World}, LW P (List.replicate k c) (Exit.then (LoopWp P c Q) Q) a w → LoopWp P c Q a w
  | 0, _, _, h => h
  | k + 1, a, w, h => by
    refine LoopWp.round (wp_mono h fun e a w h => ?_)
    cases e <;> first | exact LW.rounds (k := k) h | exact h

/-- The reckoning of a list. -/
noncomputable def runX (P : Program) (G : Nat) (en : Env) (hook : Hook) (call : FuncId → List AV → EM AV) (L : Nat) : List Code → AAct → EM (AX × AAct)
  | [], A => EM.pure (.normal, A)
  | c :: r, A => (aCode P G en hook call L none c A).bind fun (x, A') => match x with
    | .normal => runX P G en hook call L r A'
    | x => EM.pure (x, A')

theorem uni_runX (hc : ∀ f args, Uni (call f args)) {L : Nat} : ∀ (l : List Code) (A : AAct), Uni (runX P G en hook call L l A)
  | [], A => Uni.pure _
  | c :: r, A => by
    unfold runX
    refine Uni.bind (uni_code hc L none c A) fun x => ?_
    obtain ⟨x, A'⟩ := x
    cases x <;> first | exact uni_runX hc r A' | exact Uni.pure _

theorem runX_ok (he : EnvOk ρ en) (hhook : HookOk P ρ hook) (hcall : CallOk P B ρ G call) (hc : ∀ f args, Uni (call f args)) (hm : P.follows .mixedOrders = true) {L : Nat} :
    ∀ (l : List Code) (A A' : AAct) (x : AX) (s s' : St) (φ : PM) (a : Act) (w : World) (Q : Exit → Act → World → Prop), runX P G en hook call L l A s = some ((x, A'), s') → Good s → GOk G φ →
      HRel B ρ φ s.H.get w → Fresh φ s.n s'.n → ARel ρ φ A a → (∀ e a' w', CPost B ρ φ s s' A' w x e a' w' → Q e a' w') → LW P l Q a w
  | [], A, A', x, s, s', φ, a, w, Q, h, _, _, hH, _, ha, hQ => by
    obtain ⟨e, rfl⟩ := pure_spec h
    simp only [Prod.mk.injEq] at e
    obtain ⟨rfl, rfl⟩ := e
    exact hQ _ _ _ ⟨rfl, φ, ha, Post.same hH rfl rfl (Fr.refl _ _)⟩
  | c :: r, A, A', x, s, s', φ, a, w, Q, h, hgd, hG, hH, hf, ha, hQ => by
    unfold runX at h
    obtain ⟨y, s1, h1, h2⟩ := bind_spec h
    obtain ⟨x1, A1⟩ := y
    dsimp only at h2
    obtain ⟨hg1, hn1⟩ := hgd.step (uni_code hc L none c A) h1
    have ih1 := fun hf => (code_ok he hhook hcall hc hm L none c A A1 x1 s s1 φ a w h1 hgd hG hH hf ha).wp
    cases x1 with
    | normal =>
      dsimp only at h2
      obtain ⟨hg2, hn2⟩ := hg1.step (uni_runX hc r A1) h2
      refine wp_mono (ih1 (hf.left hn2)) fun e a' w' hq => ?_
      obtain ⟨rfl, φ1, ha1, hp1⟩ := hq
      exact runX_ok he hhook hcall hc hm r A1 A' x s1 s' φ1 a' w' Q h2 hg1 (hG.mono hp1.le) hp1.rel (hp1.fresh hf) ha1 fun e a' w' hq => hQ e a' w' (CPost.trans hp1 e a' w' hq)
    | exit i =>
      obtain ⟨e, rfl⟩ := pure_spec h2
      simp only [Prod.mk.injEq] at e
      obtain ⟨rfl, rfl⟩ := e
      refine wp_mono (ih1 hf) fun e a' w' hq => ?_
      have := hQ e a' w' hq
      obtain ⟨rfl, _⟩ := hq
      exact this
    | goto i =>
      obtain ⟨e, rfl⟩ := pure_spec h2
      simp only [Prod.mk.injEq] at e
      obtain ⟨rfl, rfl⟩ := e
      refine wp_mono (ih1 hf) fun e a' w' hq => ?_
      have := hQ e a' w' hq
      obtain ⟨rfl, _⟩ := hq
      exact this
    | ret =>
      obtain ⟨e, rfl⟩ := pure_spec h2
      simp only [Prod.mk.injEq] at e
      obtain ⟨rfl, rfl⟩ := e
      refine wp_mono (ih1 hf) fun e a' w' hq => ?_
      have := hQ e a' w' hq
      obtain ⟨rfl, _⟩ := hq
      exact this
end
end Go.Ab
