/-
  THE THEOREM: a function that the reckoning has run, is run by the model, from every world that the reckoning's memory stands for.
-/
import Derived.Test.YtldjfokgfapkiaaGreatDoorAbRun
namespace Go.Ab

def AX.conv : AX → Exit
  | .normal => .normal
  | .exit id => .exit id
  | .goto l => .goto l
  | .ret => .ret

section
variable {P : Program} {B : Nat} {ρ : Nat → Int} {en : Env} {G : Nat} {hook : Hook} {call : FuncId → List AV → EM AV}

theorem ops_ok (he : EnvOk ρ en) (hhook : HookOk P ρ hook) (hcall : CallOk P B ρ G call) (hc : ∀ f args, Uni (call f args)) {ops : Array Oper} {Q : Exit → Act → World → Prop} :
    ∀ (rest : List Oper) (k : Nat) (A A' : AAct) (s s' : St) (φ : PM) (a : Act) (w : World), (∀ i, rest[i]? = ops[k + i]?) → aOps P G en hook call ops rest A s = some (A', s') → Good s → GOk G φ →
      HRel B ρ φ s.H.get w → Fresh φ s.n s'.n → ARel ρ φ A a → (∀ φ' a' w', ARel ρ φ' A' a' → Post B ρ φ φ' s s' w w' → Q .normal a' w') → wpOps P ops Q (List.range' k rest.length) a w
  | [], k, A, A', s, s', φ, a, w, _, h, _, _, hH, _, ha, hQ => by
    obtain ⟨rfl, rfl⟩ := pure_spec h
    exact hQ φ a w ha (Post.same hH rfl rfl (Fr.refl _ _))
  | o :: rest, k, A, A', s, s', φ, a, w, hl, h, hgd, hG, hH, hf, ha, hQ => by
    have hk : ops[k]? = some o := by have := hl 0; simpa using this.symm
    have hl' : ∀ i, rest[i]? = ops[k + 1 + i]? := fun i => by have := hl (i + 1); rw [show k + 1 + i = k + (i + 1) by omega, ← this]; simp
    simp only [List.length_cons, List.range'_succ, wpOps, hk]
    unfold aOps at h
    rcases hw : aWanted ops A o with _ | _ | _ <;> rw [hw] at h <;> dsimp only at h
    · exact (fail_spec h).elim
    · have hwc := wanted_ok (ρ := ρ) (φ := φ) (fun j want d _ _ => ha.vals d) ha.size hw
      rw [hwc, if_neg (by simp)]
      rw [put_eq] at h
      change (match putOf A o.dst undefAV with | some A' => _ | none => _ : EM _) s = _ at h
      rcases hA1 : putOf A o.dst undefAV with _ | A1 <;> rw [hA1] at h <;> dsimp only at h
      · exact (fail_spec h).elim
      · exact ops_ok he hhook hcall hc rest (k + 1) A1 A' s s' φ _ w hl' h hgd hG hH hf (ha.put undef_rel hA1) hQ
    · have hwc := wanted_ok (ρ := ρ) (φ := φ) (fun j want d _ _ => ha.vals d) ha.size hw
      rw [hwc, if_pos rfl]
      left
      obtain ⟨v, s1, h1, h2⟩ := bind_spec h
      rw [put_eq] at h2
      change (match putOf A o.dst v with | some A' => _ | none => _ : EM _) s1 = _ at h2
      rcases hA1 : putOf A o.dst v with _ | A1 <;> rw [hA1] at h2 <;> dsimp only at h2
      · exact (fail_spec h2).elim
      · obtain ⟨hg1, hn1⟩ := hgd.step (uni_oper hc) h1
        obtain ⟨hg2, hn2⟩ := hg1.step (uni_ops hc rest A1) h2
        refine oper_ok he hhook hcall (fun x _ => ha.op hG x) h1 hgd hG hH (hf.left hn2) _ Q fun φ' u w' hv hp => ?_
        refine ops_ok he hhook hcall hc rest (k + 1) A1 A' s1 s' φ' _ w' hl' h2 hg1 (hG.mono hp.le) hp.rel (hp.fresh hf) ((ha.mono hp.le).put hv hA1) fun φ2 a2 w2 ha2 hp2 => hQ φ2 a2 w2 ha2 (hp.trans hp2)

/-- What a region comes to. -/
theorem region_ok (he : EnvOk ρ en) (hhook : HookOk P ρ hook) (hcall : CallOk P B ρ G call) (hc : ∀ f args, Uni (call f args)) (hm : P.follows .mixedOrders = true) {ops : Array Oper} {id : Nat} {draw : Bool}
    {A A' : AAct} {s s' : St} {φ : PM} {a : Act} {w : World} (h : aRegion P G en hook call ops draw A s = some (A', s')) (hgd : Good s) (hG : GOk G φ) (hH : HRel B ρ φ s.H.get w) (hf : Fresh φ s.n s'.n)
    (ha : ARel ρ φ A a) {Q : Exit → Act → World → Prop} (hQ : ∀ φ' a' w', ARel ρ φ' A' a' → Post B ρ φ φ' s s' w w' → Q .normal a' w') : (Code.region id ops draw).wp P Q a w := by
  cases draw with
  | true => exact draw_ok he hhook hcall hc hm h hG hH hf hgd.2 ha hQ
  | false =>
    refine wp_region ?_
    have := ops_ok (Q := Q) he hhook hcall hc ops.toList 0 A A' s s' φ a w (fun i => by simp) h hgd hG hH hf ha hQ
    rw [List.range_eq_range']
    simpa using this

/- loops and scopes from within -/
def LoopWp (P : Program) (c : Code) (Q : Exit → Act → World → Prop) (a : Act) (w : World) : Prop :=
  ∀ (b : Frame) (k : List Item) (cs : List Frame), ∃ e a' w', Q e a' w' ∧ Arrives P (lone (b.at a (.code c :: .inLoop c :: k)) cs w) b k cs e a' w'
theorem LoopWp.wp {c : Code} {Q : Exit → Act → World → Prop} {a : Act} {w : World} (h : LoopWp P c Q a w) : (Code.loop c).wp P Q a w := fun b k cs => by
  obtain ⟨e, a', w', hq, harr⟩ := h b k cs
  exact ⟨e, a', w', hq, .of_steps (.one step_loop) harr⟩
theorem LoopWp.round {c : Code} {Q : Exit → Act → World → Prop} {a : Act} {w : World} (h : c.wp P (Exit.then (LoopWp P c Q) Q) a w) : LoopWp P c Q a w := fun b k cs => by
  obtain ⟨e, a₁, w₁, hq, harr⟩ := h b (.inLoop c :: k) cs
  cases e with
  | normal =>
    obtain ⟨e₂, a₂, w₂, hq₂, harr₂⟩ := hq b k cs
    exact ⟨e₂, a₂, w₂, hq₂, .of_steps (Steps.trans harr (.one step_inLoop)) harr₂⟩
  | exit id => exact ⟨_, a₁, w₁, hq, .pass (x := .inLoop c) rfl (fun _ _ => .inl (by simp)) harr⟩
  | goto l => exact ⟨_, a₁, w₁, hq, .pass (x := .inLoop c) rfl (fun _ _ => .inl (by simp)) harr⟩
  | ret => exact ⟨_, a₁, w₁, hq, .pass (x := .inLoop c) rfl (fun _ _ => .inl (by simp)) harr⟩
  | panic ch => exact ⟨_, a₁, w₁, hq, .pass (x := .inLoop c) rfl (fun _ _ => .inl (by simp)) harr⟩
  | outgrown => exact ⟨_, a₁, w₁, hq, .pass (x := .inLoop c) rfl (fun _ _ => .inl (by simp)) harr⟩

def ScWp (P : Program) (body c : Code) (Q : Exit → Act → World → Prop) (a : Act) (w : World) : Prop :=
  ∀ (b : Frame) (k : List Item) (cs : List Frame), ∃ e a' w', Q e a' w' ∧ Arrives P (lone (b.at a (.code c :: .inScope body :: k)) cs w) b k cs e a' w'
theorem ScWp.wp {c : Code} {Q : Exit → Act → World → Prop} {a : Act} {w : World} (h : ScWp P c c Q a w) : (Code.scope c).wp P Q a w := fun b k cs => by
  obtain ⟨e, a', w', hq, harr⟩ := h b k cs
  exact ⟨e, a', w', hq, .of_steps (.one step_scope) harr⟩
/-- What a scope makes of an exit. -/
def Exit.inScope (P : Program) (body : Code) (Q : Exit → Act → World → Prop) : Exit → Act → World → Prop
  | .goto l, a, w => match findLabel body l with
    | some rest => ScWp P body rest Q a w
    | none => Q (.goto l) a w
  | .panic _, _, _ => False
  | .outgrown, _, _ => False
  | e, a, w => Q e a w
theorem ScWp.of {body c : Code} {Q : Exit → Act → World → Prop} {a : Act} {w : World} (h : c.wp P (Exit.inScope P body Q) a w) : ScWp P body c Q a w := fun b k cs => by
  obtain ⟨e, a₁, w₁, hq, harr⟩ := h b (.inScope body :: k) cs
  cases e with
  | normal => exact ⟨.normal, a₁, w₁, hq, Steps.trans harr (.one step_inScope)⟩
  | exit id => exact ⟨.exit id, a₁, w₁, hq, fun k' hk => harr k' (by simpa [exitTo] using hk)⟩
  | goto l =>
    simp only [Exit.inScope] at hq
    cases hfl : findLabel body l with
    | none =>
      rw [hfl] at hq
      exact ⟨.goto l, a₁, w₁, hq, fun k' hk => harr k' (by simp [gotoIn, hfl, hk])⟩
    | some rest =>
      rw [hfl] at hq
      obtain ⟨e₂, a₂, w₂, hq₂, harr₂⟩ := hq b k cs
      exact ⟨e₂, a₂, w₂, hq₂, .of_steps (harr _ (by simp [gotoIn, hfl])) harr₂⟩
  | ret => obtain ⟨todo, hs⟩ := harr; exact ⟨.ret, a₁, w₁, hq, todo, hs⟩
  | panic ch => exact hq.elim
  | outgrown => exact hq.elim

/-- What code comes to. -/
def CPost (B : Nat) (ρ : Nat → Int) (φ : PM) (s s' : St) (A' : AAct) (w : World) (x : AX) : Exit → Act → World → Prop :=
  fun e a' w' => e = x.conv ∧ ∃ φ', ARel ρ φ' A' a' ∧ Post B ρ φ φ' s s' w w'

theorem CPost.trans {φ φ1 : PM} {s s1 s2 : St} {A2 : AAct} {w w1 : World} {x : AX} (h : Post B ρ φ φ1 s s1 w w1) : ∀ e a' w', CPost B ρ φ1 s1 s2 A2 w1 x e a' w' → CPost B ρ φ s s2 A2 w x e a' w' := by
  rintro e a' w' ⟨he, φ2, ha, hp⟩
  exact ⟨he, φ2, ha, h.trans hp⟩

def CodeWp (P : Program) (c : Code) (Q : Exit → Act → World → Prop) (a : Act) (w : World) : Prop :=
  match c with
  | .loop body => LoopWp P body Q a w
  | c => c.wp P Q a w
theorem CodeWp.wp {c : Code} {Q : Exit → Act → World → Prop} {a : Act} {w : World} (h : CodeWp P c Q a w) : c.wp P Q a w := by
  cases c <;> first | exact h | exact LoopWp.wp h

theorem LoopWp.mono {c : Code} {Q Q' : Exit → Act → World → Prop} {a : Act} {w : World} (h : LoopWp P c Q a w) (hq : ∀ e a w, Q e a w → Q' e a w) : LoopWp P c Q' a w := fun b k cs => by
  obtain ⟨e, a', w', h1, h2⟩ := h b k cs
  exact ⟨e, a', w', hq _ _ _ h1, h2⟩
theorem ScWp.mono {body c : Code} {Q Q' : Exit → Act → World → Prop} {a : Act} {w : World} (h : ScWp P body c Q a w) (hq : ∀ e a w, Q e a w → Q' e a w) : ScWp P body c Q' a w := fun b k cs => by
  obtain ⟨e, a', w', h1, h2⟩ := h b k cs
  exact ⟨e, a', w', hq _ _ _ h1, h2⟩
theorem CodeWp.mono {c : Code} {Q Q' : Exit → Act → World → Prop} {a : Act} {w : World} (h : CodeWp P c Q a w) (hq : ∀ e a w, Q e a w → Q' e a w) : CodeWp P c Q' a w := by
  cases c <;> first | exact wp_mono h hq | exact LoopWp.mono h hq

/-- The conclusion about code, by whether a scope's jumps are seen to. -/
def Concl (P : Program) (sc : Option Code) (c : Code) (Q : Exit → Act → World → Prop) (a : Act) (w : World) : Prop :=
  match sc with
  | none => CodeWp P c Q a w
  | some body => ScWp P body c Q a w

theorem code_ok (he : EnvOk ρ en) (hhook : HookOk P ρ hook) (hcall : CallOk P B ρ G call) (hc : ∀ f args, Uni (call f args)) (hm : P.follows .mixedOrders = true) :
    ∀ (L : Nat) (sc : Option Code) (c : Code) (A A' : AAct) (x : AX) (s s' : St) (φ : PM) (a : Act) (w : World), aCode P G en hook call L sc c A s = some ((x, A'), s') → Good s → GOk G φ →
      HRel B ρ φ s.H.get w → Fresh φ s.n s'.n → ARel ρ φ A a → Concl P sc c (CPost B ρ φ s s' A' w x) a w
  | 0, _, _, _, _, _, _, _, _, _, _, h, _, _, _, _, _ => by unfold aCode at h; exact (fail_spec h).elim
  | L + 1, some body, c, A, A', x, s, s', φ, a, w, h, hgd, hG, hH, hf, ha => by
    unfold aCode at h
    obtain ⟨y, s1, h1, h2⟩ := bind_spec h
    obtain ⟨x1, A1⟩ := y
    dsimp only at h2
    obtain ⟨hg1, hn1⟩ := hgd.step (uni_code hc L none c A) h1
    have ih1 := fun hf => (code_ok he hhook hcall hc hm L none c A A1 x1 s s1 φ a w h1 hgd hG hH hf ha).wp
    refine ScWp.of ?_
    cases x1 with
    | goto l =>
      dsimp only at h2
      cases hfl : findLabel body l with
      | none =>
        rw [hfl] at h2
        obtain ⟨e, rfl⟩ := pure_spec h2
        simp only [Prod.mk.injEq] at e
        obtain ⟨rfl, rfl⟩ := e
        refine wp_mono (ih1 hf) fun e a' w' hq => ?_
        obtain ⟨rfl, hrest⟩ := hq
        simp only [AX.conv, Exit.inScope, hfl]
        exact ⟨rfl, hrest⟩
      | some rest =>
        rw [hfl] at h2
        dsimp only at h2
        obtain ⟨hg2, hn2⟩ := hg1.step (uni_code hc L (some body) rest A1) h2
        refine wp_mono (ih1 (hf.left hn2)) fun e a' w' hq => ?_
        obtain ⟨rfl, φ1, ha1, hp1⟩ := hq
        simp only [AX.conv, Exit.inScope, hfl]
        exact (code_ok he hhook hcall hc hm L (some body) rest A1 A' x s1 s' φ1 a' w' h2 hg1 (hG.mono hp1.le) hp1.rel (hp1.fresh hf) ha1).mono (CPost.trans hp1)
    | normal =>
      obtain ⟨e, rfl⟩ := pure_spec h2
      simp only [Prod.mk.injEq] at e
      obtain ⟨rfl, rfl⟩ := e
      refine wp_mono (ih1 hf) fun e a' w' hq => ?_
      obtain ⟨rfl, hrest⟩ := hq
      exact ⟨rfl, hrest⟩
    | exit i =>
      obtain ⟨e, rfl⟩ := pure_spec h2
      simp only [Prod.mk.injEq] at e
      obtain ⟨rfl, rfl⟩ := e
      refine wp_mono (ih1 hf) fun e a' w' hq => ?_
      obtain ⟨rfl, hrest⟩ := hq
      exact ⟨rfl, hrest⟩
    | ret =>
      obtain ⟨e, rfl⟩ := pure_spec h2
      simp only [Prod.mk.injEq] at e
      obtain ⟨rfl, rfl⟩ := e
      refine wp_mono (ih1 hf) fun e a' w' hq => ?_
      obtain ⟨rfl, hrest⟩ := hq
      exact ⟨rfl, hrest⟩
  | L + 1, none, c, A, A', x, s, s', φ, a, w, h, hgd, hG, hH, hf, ha => by
    unfold aCode at h
    cases c with
    | skip =>
      obtain ⟨e, rfl⟩ := pure_spec h
      simp only [Prod.mk.injEq] at e
      obtain ⟨rfl, rfl⟩ := e
      exact wp_skip ⟨rfl, φ, ha, Post.same hH rfl rfl (Fr.refl _ _)⟩
    | label l =>
      obtain ⟨e, rfl⟩ := pure_spec h
      simp only [Prod.mk.injEq] at e
      obtain ⟨rfl, rfl⟩ := e
      exact wp_label ⟨rfl, φ, ha, Post.same hH rfl rfl (Fr.refl _ _)⟩
    | exit i =>
      obtain ⟨e, rfl⟩ := pure_spec h
      simp only [Prod.mk.injEq] at e
      obtain ⟨rfl, rfl⟩ := e
      exact wp_exit ⟨rfl, φ, ha, Post.same hH rfl rfl (Fr.refl _ _)⟩
    | goto l =>
      obtain ⟨e, rfl⟩ := pure_spec h
      simp only [Prod.mk.injEq] at e
      obtain ⟨rfl, rfl⟩ := e
      exact wp_goto ⟨rfl, φ, ha, Post.same hH rfl rfl (Fr.refl _ _)⟩
    | ret =>
      obtain ⟨e, rfl⟩ := pure_spec h
      simp only [Prod.mk.injEq] at e
      obtain ⟨rfl, rfl⟩ := e
      exact wp_ret ⟨rfl, φ, ha, Post.same hH rfl rfl (Fr.refl _ _)⟩
    | region i ops d =>
      obtain ⟨A1, s1, h1, h2⟩ := bind_spec h
      obtain ⟨e, rfl⟩ := pure_spec h2
      simp only [Prod.mk.injEq] at e
      obtain ⟨rfl, rfl⟩ := e
      exact region_ok he hhook hcall hc hm h1 hgd hG hH hf ha fun φ' a' w' ha' hp => ⟨rfl, φ', ha', hp⟩
    | seq c1 c2 =>
      obtain ⟨y, s1, h1, h2⟩ := bind_spec h
      obtain ⟨x1, A1⟩ := y
      dsimp only at h2
      obtain ⟨hg1, hn1⟩ := hgd.step (uni_code hc L none c1 A) h1
      have ih1 := fun hf => (code_ok he hhook hcall hc hm L none c1 A A1 x1 s s1 φ a w h1 hgd hG hH hf ha).wp
      refine wp_seq ?_
      cases x1 with
      | normal =>
        dsimp only at h2
        obtain ⟨hg2, hn2⟩ := hg1.step (uni_code hc L none c2 A1) h2
        refine wp_mono (ih1 (hf.left hn2)) fun e a' w' hq => ?_
        obtain ⟨rfl, φ1, ha1, hp1⟩ := hq
        exact wp_mono (code_ok he hhook hcall hc hm L none c2 A1 A' x s1 s' φ1 a' w' h2 hg1 (hG.mono hp1.le) hp1.rel (hp1.fresh hf) ha1).wp (CPost.trans hp1)
      | exit i =>
        obtain ⟨e, rfl⟩ := pure_spec h2
        simp only [Prod.mk.injEq] at e
        obtain ⟨rfl, rfl⟩ := e
        refine wp_mono (ih1 hf) fun e a' w' hq => ?_
        obtain ⟨rfl, hrest⟩ := hq
        exact ⟨rfl, hrest⟩
      | goto i =>
        obtain ⟨e, rfl⟩ := pure_spec h2
        simp only [Prod.mk.injEq] at e
        obtain ⟨rfl, rfl⟩ := e
        refine wp_mono (ih1 hf) fun e a' w' hq => ?_
        obtain ⟨rfl, hrest⟩ := hq
        exact ⟨rfl, hrest⟩
      | ret =>
        obtain ⟨e, rfl⟩ := pure_spec h2
        simp only [Prod.mk.injEq] at e
        obtain ⟨rfl, rfl⟩ := e
        refine wp_mono (ih1 hf) fun e a' w' hq => ?_
        obtain ⟨rfl, hrest⟩ := hq
        exact ⟨rfl, hrest⟩
    | cond c t e =>
      dsimp only at h
      have hcv := ha.op hG c
      cases hcc : A.eval G c with
      | none => rw [hcc] at h; exact (fail_spec h).elim
      | some cv =>
        rw [hcc] at h
        have hr := hcv cv hcc
        generalize hce : a.eval c = cu at hr
        cases hr <;> first | exact (fail_spec h).elim | skip
        rename_i b
        cases b with
        | true => exact wp_cond_true hce (code_ok he hhook hcall hc hm L none t A A' x s s' φ a w h hgd hG hH hf ha).wp
        | false => exact wp_cond_false hce (code_ok he hhook hcall hc hm L none e A A' x s s' φ a w h hgd hG hH hf ha).wp
    | block i body =>
      obtain ⟨y, s1, h1, h2⟩ := bind_spec h
      obtain ⟨x1, A1⟩ := y
      dsimp only at h2
      have hs1 : s' = s1 := by
        cases x1 with
        | exit i' =>
          dsimp only at h2
          cases hb : Nat.beq i' i <;> rw [hb] at h2 <;> exact (pure_spec h2).2
        | normal => exact (pure_spec h2).2
        | goto l => exact (pure_spec h2).2
        | ret => exact (pure_spec h2).2
      subst hs1
      refine wp_block (wp_mono (code_ok he hhook hcall hc hm L none body A A1 x1 s s' φ a w h1 hgd hG hH hf ha).wp fun e a' w' hq => ?_)
      obtain ⟨rfl, hrest⟩ := hq
      cases x1 with
      | exit i' =>
        dsimp only at h2
        simp only [AX.conv, Exit.inBlock]
        cases hb : Nat.beq i' i <;> rw [hb] at h2
        · obtain ⟨e, -⟩ := pure_spec h2
          simp only [Prod.mk.injEq] at e
          obtain ⟨rfl, rfl⟩ := e
          rw [if_neg (by rintro rfl; simp at hb)]
          exact ⟨rfl, hrest⟩
        · obtain ⟨e, -⟩ := pure_spec h2
          simp only [Prod.mk.injEq] at e
          obtain ⟨rfl, rfl⟩ := e
          rw [if_pos (Nat.eq_of_beq_eq_true hb)]
          exact ⟨rfl, hrest⟩
      | normal =>
        obtain ⟨e, -⟩ := pure_spec h2
        simp only [Prod.mk.injEq] at e
        obtain ⟨rfl, rfl⟩ := e
        exact ⟨rfl, hrest⟩
      | goto l =>
        obtain ⟨e, -⟩ := pure_spec h2
        simp only [Prod.mk.injEq] at e
        obtain ⟨rfl, rfl⟩ := e
        exact ⟨rfl, hrest⟩
      | ret =>
        obtain ⟨e, -⟩ := pure_spec h2
        simp only [Prod.mk.injEq] at e
        obtain ⟨rfl, rfl⟩ := e
        exact ⟨rfl, hrest⟩
    | loop body =>
      obtain ⟨y, s1, h1, h2⟩ := bind_spec h
      obtain ⟨x1, A1⟩ := y
      dsimp only at h2
      obtain ⟨hg1, hn1⟩ := hgd.step (uni_code hc L none body A) h1
      have ih1 := fun hf => (code_ok he hhook hcall hc hm L none body A A1 x1 s s1 φ a w h1 hgd hG hH hf ha).wp
      refine LoopWp.round ?_
      cases x1 with
      | normal =>
        dsimp only at h2
        obtain ⟨hg2, hn2⟩ := hg1.step (uni_code hc L none (.loop body) A1) h2
        refine wp_mono (ih1 (hf.left hn2)) fun e a' w' hq => ?_
        obtain ⟨rfl, φ1, ha1, hp1⟩ := hq
        have := code_ok he hhook hcall hc hm L none (.loop body) A1 A' x s1 s' φ1 a' w' h2 hg1 (hG.mono hp1.le) hp1.rel (hp1.fresh hf) ha1
        exact LoopWp.mono this (CPost.trans hp1)
      | exit i =>
        obtain ⟨e, rfl⟩ := pure_spec h2
        simp only [Prod.mk.injEq] at e
        obtain ⟨rfl, rfl⟩ := e
        refine wp_mono (ih1 hf) fun e a' w' hq => ?_
        obtain ⟨rfl, hrest⟩ := hq
        exact ⟨rfl, hrest⟩
      | goto i =>
        obtain ⟨e, rfl⟩ := pure_spec h2
        simp only [Prod.mk.injEq] at e
        obtain ⟨rfl, rfl⟩ := e
        refine wp_mono (ih1 hf) fun e a' w' hq => ?_
        obtain ⟨rfl, hrest⟩ := hq
        exact ⟨rfl, hrest⟩
      | ret =>
        obtain ⟨e, rfl⟩ := pure_spec h2
        simp only [Prod.mk.injEq] at e
        obtain ⟨rfl, rfl⟩ := e
        refine wp_mono (ih1 hf) fun e a' w' hq => ?_
        obtain ⟨rfl, hrest⟩ := hq
        exact ⟨rfl, hrest⟩
    | scope body => exact ScWp.wp (code_ok he hhook hcall hc hm L (some body) body A A' x s s' φ a w h hgd hG hH hf ha)
    | rangeFunc f p y z => exact (fail_spec h).elim
    | refuse y => exact (fail_spec h).elim

/- functions -/
theorem initTm_get : ∀ (vs : List AV) (i : Nat) (t : Tr AV) (N m : Nat), (AAct.mk N (initTm i vs t)).get m = if i ≤ m ∧ m < i + vs.length then vs.getD (m - i) undefAV else (AAct.mk N t).get m
  | [], i, t, N, m => by simp only [initTm, List.length_nil]; rw [if_neg (by omega)]
  | v :: vs, i, t, N, m => by
    simp only [initTm, Tr.setK_eq]
    rw [initTm_get vs (i + 1) _ N m, get_set_tm]
    simp only [List.length_cons]
    by_cases h : i + 1 ≤ m ∧ m < i + 1 + vs.length
    · rw [if_pos h, if_pos (by omega)]
      obtain ⟨k, rfl⟩ : ∃ k, m = i + 1 + k := ⟨m - (i + 1), by omega⟩
      have e1 : i + 1 + k - (i + 1) = k := by omega
      have e2 : i + 1 + k - i = k + 1 := by omega
      rw [e1, e2]; rfl
    · rw [if_neg h]
      by_cases e : m = i
      · subst e; rw [if_pos rfl, if_pos (by omega), Nat.sub_self]; rfl
      · rw [if_neg e, if_neg (by omega)]

theorem init_ok {φ : PM} {args : List AV} {cargs : Array Value} {n : Nat} (h : VRels ρ φ args cargs.toList) :
    ARel ρ φ ⟨args.length + (n - args.length), initTm 0 args .leaf⟩ { tmps := cargs ++ Array.replicate (n - cargs.size) undef, defers := [] } := by
  have hl := h.length
  simp only [Array.length_toList] at hl
  refine ⟨rfl, by simp [hl], fun t => ?_⟩
  rw [initTm_get]
  by_cases ht : t < args.length
  · rw [if_pos (by omega), Nat.sub_zero]
    have hx : args[t]? = some (args.getD t undefAV) := by simp [List.getD, ht]
    obtain ⟨u, hu, hv⟩ := h.get hx
    have e : (cargs ++ Array.replicate (n - cargs.size) undef).getD t undef = u := by
      have h2 : t < cargs.size := by omega
      have h3 : cargs[t]? = some u := by simpa using hu
      simp only [Array.getD_eq_getD_getElem?, Array.getElem?_append, h2, if_true, h3, Option.getD_some]
    rw [e]; exact hv
  · rw [if_neg (by omega)]
    have e : (cargs ++ Array.replicate (n - cargs.size) undef).getD t undef = undef := by
      have h2 : ¬ t < cargs.size := by omega
      simp only [Array.getD_eq_getD_getElem?, Array.getElem?_append, h2, if_false, Array.getElem?_replicate]
      split <;> rfl
    rw [e]
    have e2 : (AAct.mk (args.length + (n - args.length)) Tr.leaf).get t = undefAV := rfl
    rw [e2]
    exact undef_rel

def resVal (tmps : Array Value) : ResultVar → Sem Value
  | .tmp t => pure (tmps.getD t undef)
  | .cell x t => do loadVar t (← asAddr (tmps.getD x undef))
theorem results_eq (fn : Func) (tmps : Array Value) : results fn tmps = (do let vs ← fn.results.mapM (resVal tmps); pure (if h : vs.size = 1 then vs[0] else .tuple vs)) := rfl

theorem results_ok : ∀ (rs : List ResultVar) (A : AAct) (vs : List AV) (s s' : St) (φ : PM) (a : Act) (w : World), aResults P A rs s = some (vs, s') → HRel B ρ φ s.H.get w → ARel ρ φ A a →
    s'.H = s.H ∧ s'.n = s.n ∧ ∃ us, (rs.mapM (resVal a.tmps)).run P w = .ok us w ∧ VRels ρ φ vs us
  | [], A, vs, s, s', φ, a, w, h, hH, ha => by
    obtain ⟨rfl, rfl⟩ := pure_spec h
    exact ⟨rfl, rfl, [], rfl, .nil⟩
  | r :: rs, A, vs, s, s', φ, a, w, h, hH, ha => by
    unfold aResults at h
    obtain ⟨v, s1, h1, h2⟩ := bind_spec h
    obtain ⟨vs', s2, h3, h4⟩ := bind_spec h2
    obtain ⟨rfl, rfl⟩ := pure_spec h4
    have first : s1.H = s.H ∧ s1.n = s.n ∧ ∃ u, (resVal a.tmps r).run P w = .ok u w ∧ VRel ρ φ v u := by
      cases r with
      | tmp t =>
        obtain ⟨rfl, rfl⟩ := pure_spec h1
        exact ⟨rfl, rfl, a.tmps.getD t undef, rfl, ha.vals t⟩
      | cell x t =>
        have h1 : aLoad P t (A.get x) s = some (v, s1) := h1
        have hx := ha.vals x
        have hH2 := hH
        generalize hxe : a.tmps.getD x undef = xv at hx
        generalize A.get x = ax at h1 hx
        unfold aLoad at h1
        cases hx with
        | ptr l off b N hφ =>
          obtain ⟨o, s3, g1, g2⟩ := bind_spec h1
          obtain ⟨eH, en', hrow⟩ := row_at g1 hφ hH
          cases o with
          | cells ro gr el cs =>
            obtain ⟨hv, rfl⟩ := lift_spec g2
            obtain ⟨C, T, fz, q1, q2, q3, q4, q5, q6, q7⟩ := hrow _ _ _ _ rfl
            obtain ⟨u, hu, hvu⟩ := aPart_val (P := P) q5 (by omega) hv
            exact ⟨eH, en', u, by simp [resVal, hxe, asAddr, loadVar_run q1 hu], hvu⟩
          | dead => exact (fail_spec g2).elim
          | map es ck => exact (fail_spec g2).elim
        | _ => exact (fail_spec h1).elim
    obtain ⟨e1, e2, u, hu, hv⟩ := first
    obtain ⟨e3, e4, us, hus, hvs⟩ := results_ok rs A vs' s1 s' φ a w h3 (by rw [e1]; exact hH) ha
    exact ⟨by rw [e3, e1], by omega, u :: us, by simp only [List.mapM_cons, Sem.run_bind, hu, Result.andThen_ok, hus, Sem.run_pure], .cons _ _ _ _ hv hvs⟩

theorem one_rel {φ : PM} {vs : List AV} {us : List Value} (h : VRels ρ φ vs us) : VRel ρ φ (one vs) (if h : us.toArray.size = 1 then us.toArray[0] else .tuple us.toArray) := by
  cases h with
  | nil => exact .tuple _ _ .nil
  | cons x u xs us h h' =>
    cases h' with
    | nil => simpa [one] using h
    | cons y v ys vs h2 h3 =>
      have : ¬ ((u :: v :: vs).toArray.size = 1) := by simp
      rw [dif_neg this]
      exact .tuple _ _ (.cons _ _ _ _ h (.cons _ _ _ _ h2 h3))

theorem body_ok (he : EnvOk ρ en) (hhook : HookOk P ρ hook) (hcall : CallOk P B ρ G call) (hc : ∀ f args, Uni (call f args)) (hm : P.follows .mixedOrders = true) {L : Nat} {f : Nat} {args : List AV} {s s' : St} {v : AV}
    {φ : PM} {w : World} {cargs : Array Value} (h : aBody P G en hook L call f args s = some (v, s')) (hgd : Good s) (hargs : VRels ρ φ args cargs.toList) (hG : GOk G φ) (hH : HRel B ρ φ s.H.get w)
    (hf : Fresh φ s.n s'.n) : Calls P f cargs w fun e w' => ∃ φ' u, e = .returned u ∧ VRel ρ φ' v u ∧ Post B ρ φ φ' s s' w w' := by
  unfold aBody at h
  cases hfn : P.funcs[f]? with
  | none => rw [hfn] at h; exact (fail_spec h).elim
  | some fn =>
    rw [hfn] at h
    dsimp only at h
    cases hb : fn.body with
    | none => rw [hb] at h; exact (fail_spec h).elim
    | some c =>
      rw [hb] at h
      dsimp only at h
      obtain ⟨y, s1, h1, h2⟩ := bind_spec h
      obtain ⟨x, A1⟩ := y
      dsimp only at h2
      obtain ⟨hg1, hn1⟩ := hgd.step (uni_code hc _ _ _ _) h1
      have fin : ∀ (h3 : ((aResults P A1 fn.results.toList).bind fun vs => EM.pure (one vs)) s1 = some (v, s')) (hx : x = .normal ∨ x = .ret),
          Calls P f cargs w fun e w' => ∃ φ' u, e = .returned u ∧ VRel ρ φ' v u ∧ Post B ρ φ φ' s s' w w' := by
        intro h3 hx
        obtain ⟨vs, s2, h4, h5⟩ := bind_spec h3
        obtain ⟨rfl, rfl⟩ := pure_spec h5
        obtain ⟨hg2, hn2⟩ := hg1.step (uni_results _) h4
        refine calls_of_wp hfn hb (wp_mono (code_ok he hhook hcall hc hm L none c _ A1 x s s1 φ _ w h1 hgd hG hH (hf.left hn2) (init_ok hargs)).wp fun e a' w' hq => ?_)
        obtain ⟨rfl, φ1, ha1, hp1⟩ := hq
        obtain ⟨e1, e2, us, hus, hvs⟩ := results_ok (P := P) (B := B) fn.results.toList A1 vs s1 s' φ1 a' w' h4 hp1.rel ha1
        have hres : (results fn a'.tmps).run P w' = .ok (if h : us.toArray.size = 1 then us.toArray[0] else .tuple us.toArray) w' := by
          rw [results_eq, Array.mapM_eq_mapM_toList]
          simp only [Sem.run_bind, Sem.run_map, hus, Result.andThen_ok, Sem.run_pure]
        have hpost : Post B ρ φ φ1 s s' w w' := hp1.trans (Post.same hp1.rel e1 e2 (Fr.refl _ _))
        rcases hx with rfl | rfl
        · exact ⟨ha1.defers, _, hres, φ1, _, rfl, one_rel hvs, hpost⟩
        · exact ⟨ha1.defers, _, hres, φ1, _, rfl, one_rel hvs, hpost⟩
      cases x with
      | normal => exact fin h2 (.inl rfl)
      | ret => exact fin h2 (.inr rfl)
      | exit i => exact (fail_spec h2).elim
      | goto l => exact (fail_spec h2).elim
end
end Go.Ab
