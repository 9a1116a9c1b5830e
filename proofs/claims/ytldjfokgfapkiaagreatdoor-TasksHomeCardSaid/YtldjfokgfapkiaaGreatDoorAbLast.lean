/-
  A RUN IN CHUNKS between states that are written down.
-/
import Derived.Test.YtldjfokgfapkiaaGreatDoorAbMatch
namespace Go.Ab
open Go.RowKit (Below)

/-- Slots, and a world, that a state of the reckoning stands for. -/
def LitsA (B G : Nat) (ρ : Nat → Int) (A : AAct) (s : St) (a : Act) (w : World) : Prop :=
  ∃ φ, HRel B ρ φ s.H.get w ∧ ARel ρ φ A a ∧ GOk G φ ∧ (∀ m, Fresh φ s.n m) ∧ Good s
/-- The same of a state that is written down. -/
def Lits (B G : Nat) (ρ : Nat → Int) (x : Lit) (a : Act) (w : World) : Prop := LitsA B G ρ x.act x.st a w

/-- Does a run end in that state? -/
noncomputable def endsIn (G : Nat) (σ : List SI) (rl : List Nat) (r : Option ((AX × AAct) × St)) (y : Lit) : Bool :=
  match r with
  | some ((.normal, A'), s') => matchB G σ rl A' s' y
  | _ => false

section
variable {P : Program} {B : Nat} {ρ : Nat → Int} {en : Env} {G : Nat} {hook : Hook}

theorem LW.split {P : Program} : ∀ {l r : List Code} {Q : Exit → Act → World → Prop} {a : Act} {w : World}, LW P (l ++ r) Q a w → LW P l (Exit.then (LW P r Q) Q) a w
  | [], _, _, _, _, h => h
  | c :: l, r, Q, a, w, h => by
    refine wp_mono h fun e a w h => ?_
    cases e <;> first | exact LW.split h | exact h

theorem CPost.below {φ : PM} {s s' : St} {A' : AAct} {w w' : World} {x : AX} {e : Exit} {a' : Act} (h : CPost B ρ φ s s' A' w x e a' w') (hH : HRel B ρ φ s.H.get w) :
    e = x.conv ∧ ∃ φ', ARel ρ φ' A' a' ∧ HRel B ρ φ' s'.H.get w' ∧ φ.le φ' ∧ Below B w w' := by
  obtain ⟨h1, φ', h2, h3⟩ := h
  exact ⟨h1, φ', h2, h3.rel, h3.le, below_of_post h3 hH⟩

/-- A chunk. -/
theorem chunk_ok (he : EnvOk ρ en) (hhook : HookOk P ρ hook) (hm : P.follows .mixedOrders = true) {L D : Nat} {l : List Code} {A : AAct} {s : St} {y : Lit} {σ : List SI} {rl : List Nat}
    (h : endsIn G σ rl (runX P G en hook (aFun P G en hook L D) L l A s) y = true) {a : Act} {w : World} {Q : Exit → Act → World → Prop} (hx : LitsA B G ρ A s a w)
    (hQ : ∀ a' w', Lits B G (newρ σ ρ) y a' w' → Below B w w' → Q .normal a' w') : LW P l Q a w := by
  obtain ⟨φ, hH, hA, hG, hF, hgd⟩ := hx
  cases e : runX P G en hook (aFun P G en hook L D) L l A s with
  | none => rw [e] at h; simp [endsIn] at h
  | some r =>
    obtain ⟨⟨x, A'⟩, s'⟩ := r
    rw [e] at h
    cases x with
    | normal =>
      simp only [endsIn] at h
      refine runX_ok he hhook (fun_ok he hhook hm D) (fun f args => uni_fun D f args) hm l A A' .normal s s' φ a w Q e hgd hG hH (hF _) hA fun e' a' w' hq => ?_
      obtain ⟨rfl, φ', hA', hH', hle, hb⟩ := hq.below hH
      obtain ⟨m1, m2, m3, m4, m5⟩ := match_ok h (hG.mono hle) hH' hA'
      exact hQ a' w' ⟨_, m1, m2, m3, m4, m5⟩ hb
    | _ => simp [endsIn] at h

/-- A loop's last round, and what comes behind the loop. -/
noncomputable def lastRun (P : Program) (G : Nat) (en : Env) (hook : Hook) (call : FuncId → List AV → EM AV) (L : Nat) (id : Nat) (c : Code) (rest : List Code) (A : AAct) : EM (AX × AAct) :=
  (aCode P G en hook call L none c A).bind fun (x, A') => match x with
    | .exit i => match Nat.beq i id with
      | true => runX P G en hook call L rest A'
      | false => EM.fail
    | _ => EM.fail

theorem last_ok (he : EnvOk ρ en) (hhook : HookOk P ρ hook) (hm : P.follows .mixedOrders = true) {L D : Nat} {id : Nat} {c : Code} {rest : List Code} {A A' : AAct} {x : AX} {s s' : St}
    (h : lastRun P G en hook (aFun P G en hook L D) L id c rest A s = some ((x, A'), s')) {a : Act} {w : World} {Q : Exit → Act → World → Prop} (hx : LitsA B G ρ A s a w)
    (hQ : ∀ φ' a' w', ARel ρ φ' A' a' → HRel B ρ φ' s'.H.get w' → Below B w w' → Q x.conv a' w') : LoopWp P c (Exit.inBlock id (Exit.then (LW P rest Q) Q)) a w := by
  obtain ⟨φ, hH, hA, hG, hF, hgd⟩ := hx
  unfold lastRun at h
  obtain ⟨y, s1, h1, h2⟩ := bind_spec h
  obtain ⟨x1, A1⟩ := y
  dsimp only at h2
  have huni := fun (f : FuncId) (args : List AV) => uni_fun (P := P) (G := G) (en := en) (hook := hook) (L := L) D f args
  obtain ⟨hg1, hn1⟩ := hgd.step (uni_code huni L none c A) h1
  cases x1 with
  | exit i =>
    dsimp only at h2
    cases hb : Nat.beq i id with
    | false => rw [hb] at h2; exact (fail_spec h2).elim
    | true =>
      rw [hb] at h2
      dsimp only at h2
      have hi := Nat.eq_of_beq_eq_true hb
      refine LoopWp.round (wp_mono (code_ok he hhook (fun_ok he hhook hm D) huni hm L none c A A1 (.exit i) s s1 φ a w h1 hgd hG hH (hF _) hA).wp fun e a' w' hq => ?_)
      obtain ⟨rfl, φ2, ha2, hp2⟩ := hq
      have hbl : Below B w w' := below_of_post hp2 hH
      show Exit.inBlock id _ (.exit i) a' w'
      simp only [Exit.inBlock, hi, if_true]
      show LW P rest Q a' w'
      refine runX_ok he hhook (fun_ok he hhook hm D) huni hm rest A1 A' x s1 s' φ2 a' w' Q h2 hg1 (hG.mono hp2.le) hp2.rel (hp2.fresh (hF s'.n)) ha2 fun e2 a2 w2 hq2 => ?_
      obtain ⟨rfl, φ3, hA3, hH3, hle3, hbl3⟩ := hq2.below hp2.rel
      exact hQ φ3 a2 w2 hA3 hH3 (hbl.trans hbl3)
  | normal => exact (fail_spec h2).elim
  | goto l => exact (fail_spec h2).elim
  | ret => exact (fail_spec h2).elim

/- NUMBERS THAT ARE KNOWN TO BE OTHERS -/
def subSF (τ : List SI) : SF → SF
  | .bits n => .bits n
  | .ofI e => .ofI (subI τ e)
def subAV (τ : List SI) : Nat → AV → AV
  | 0, v => v
  | n + 1, v => match v with
    | .int k e => .int k (subI τ e)
    | .float k f => .float k (subSF τ f)
    | .complex k f g => .complex k (subSF τ f) (subSF τ g)
    | .func fn a b => .func fn (a.map (subAV τ n)) (b.map (subAV τ n))
    | .iface t x => .iface t (subAV τ n x)
    | .agg cs => .agg (cs.map (subAV τ n))
    | .tuple cs => .tuple (cs.map (subAV τ n))
    | v => v
def subO (τ : List SI) : AObj → AObj
  | .cells ro gr el cs => .cells ro gr el (cs.map (subAV τ 100))
  | .map es ck => .map (es.map fun (k, v, b) => (subAV τ 100 k, subAV τ 100 v, b)) ck
  | .dead => .dead
def Lit.sub (τ : List SI) (x : Lit) : Lit := ⟨x.n, x.heap.map fun (l, o) => (l, subO τ o), x.slots.map (subAV τ 100)⟩

variable {τ : List SI} {φ : PM}
theorem subSF_ok (hτ : newρ τ ρ = ρ) (f : SF) : (subSF τ f).val ρ = f.val ρ := by
  cases f with
  | bits n => rfl
  | ofI e => simp only [subSF, SF.val, subI_ok, hτ]
theorem rels_map {f : AV → AV} (hf : ∀ x u, VRel ρ φ x u → VRel ρ φ (f x) u) : ∀ {xs : List AV} {us : List Value}, VRels ρ φ xs us → VRels ρ φ (xs.map f) us
  | [], _, h => by cases h; exact .nil
  | x :: xs, _, h => by cases h with | cons _ u _ us h1 h2 => exact .cons _ _ _ _ (hf _ _ h1) (rels_map hf h2)
theorem subAV_ok (hτ : newρ τ ρ = ρ) : ∀ (n : Nat) (x : AV) (u : Value), VRel ρ φ x u → VRel ρ φ (subAV τ n x) u
  | 0, _, _, h => h
  | n + 1, x, u, h => by
    have ih := subAV_ok hτ n
    unfold subAV
    cases h with
    | int k e m hm => exact .int _ _ _ (by rw [subI_ok, hτ, hm])
    | float k f m hm => exact .float _ _ _ (by rw [subSF_ok hτ, hm])
    | complex k f g m m' hm hm' => exact .complex _ _ _ _ _ (by rw [subSF_ok hτ, hm]) (by rw [subSF_ok hτ, hm'])
    | func fn xs ys us vs h1 h2 => exact .func _ _ _ _ _ (rels_map ih h1) (rels_map ih h2)
    | iface t a v h => exact .iface _ _ _ (ih _ _ h)
    | agg xs us h => exact .agg _ _ (rels_map ih h)
    | tuple xs us h => exact .tuple _ _ (rels_map ih h)
    | bool b => exact .bool b
    | string s => exact .string s
    | nilp => exact .nilp
    | ptr l off b N h => exact .ptr l off b N h
    | nils => exact .nils
    | slice l off len cap b N h => exact .slice l off len cap b N h
    | gslice l off len sz b N c h h1 h2 h3 => exact .gslice l off len sz b N c h h1 h2 h3
    | nilm => exact .nilm
    | map l b N h => exact .map l b N h
    | nilFunc => exact .nilFunc
    | nilIface => exact .nilIface
theorem mrel_map (hτ : newρ τ ρ = ρ) : ∀ {es : List (AV × AV × Option Nat)} {E : List MapEntry}, MRel ρ φ es E → MRel ρ φ (es.map fun (k, v, b) => (subAV τ 100 k, subAV τ 100 v, b)) E := by
  intro es E h
  induction h with
  | nil => exact .nil
  | cons k v b e xs es h1 h2 h3 _ ih => exact .cons _ _ _ _ _ _ (subAV_ok hτ _ _ _ h1) (subAV_ok hτ _ _ _ h2) h3 ih
theorem subO_ok (hτ : newρ τ ρ = ρ) {o : AObj} {N : Nat} {x : Obj} (h : ORel ρ φ o N x) : ORel ρ φ (subO τ o) N x := by
  cases o with
  | dead => exact h
  | cells ro gr el cs =>
    cases x with
    | cells C t fz =>
      obtain ⟨q1, q2, q3, q4, q5, q6⟩ := h
      refine ⟨q1, q2, fun hg => by rw [List.length_map]; exact q3 hg, by rw [List.length_map]; exact q4, ?_, q6⟩
      rw [List.length_map]
      exact rels_map (subAV_ok hτ 100) q5
    | map E c => exact h.elim
    | _ => exact h.elim
  | map es ck =>
    cases x with
    | map E c => exact ⟨mrel_map hτ h.1, h.2⟩
    | cells C t fz => exact h.elim
    | _ => exact h.elim
theorem mkH_map (f : AObj → AObj) : ∀ (hl : List (Nat × AObj)) (l : Nat), (mkH (hl.map fun (l, o) => (l, f o))).get l = ((mkH hl).get l).map f
  | [], l => by simp [mkH, Tr.get_leaf]
  | (k, p) :: r, l => by
    simp only [List.map_cons, mkH, Tr.get_set, mkH_map f r]
    split <;> rfl
theorem alive_subO (o : AObj) : (subO τ o).alive = o.alive := by cases o <;> rfl
theorem ro_subO (o : AObj) : (subO τ o).ro = o.ro := by cases o <;> rfl

/-- The state with numbers under the names of others that are the same. -/
theorem Lits.sub (hτ : newρ τ ρ = ρ) {x : Lit} {a : Act} {w : World} (h : Lits B G ρ x a w) : Lits B G ρ (x.sub τ) a w := by
  obtain ⟨φ, hH, hA, hG, hF, hgd⟩ := h
  have hget : ∀ l o, (x.sub τ).st.H.get l = some o → ∃ o', x.st.H.get l = some o' ∧ o = subO τ o' := by
    intro l o ho
    change (mkH (x.heap.map fun (l, o) => (l, subO τ o))).get l = some o at ho
    rw [mkH_map, Option.map_eq_some_iff] at ho
    obtain ⟨o', h1, h2⟩ := ho
    exact ⟨o', h1, h2.symm⟩
  refine ⟨φ, ⟨hH.base, fun l o ho ha => ?_, fun l l' o o' b N N' ho ho' ha ha' hl hl' => ?_⟩, ⟨hA.defers, ?_, fun t => ?_⟩, hG, hF, ⟨hgd.1, fun l o ho => ?_⟩⟩
  · obtain ⟨o', h1, rfl⟩ := hget l o ho
    rw [alive_subO] at ha
    obtain ⟨b, N, y, g1, g2, g3, g4⟩ := hH.at_ l o' h1 ha
    exact ⟨b, N, y, g1, g2, subO_ok hτ g3, by rw [ro_subO]; exact g4⟩
  · obtain ⟨p, h1, rfl⟩ := hget l o ho
    obtain ⟨p', h2, rfl⟩ := hget l' o' ho'
    rw [alive_subO] at ha ha'
    exact hH.inj l l' p p' b N N' h1 h2 ha ha' hl hl'
  · have := hA.size
    simpa [Lit.sub, Lit.act] using this
  · have h1 := hA.vals t
    simp only [Lit.sub, Lit.act, AAct.get, mkT_get] at h1 ⊢
    rw [if_neg (by omega)] at h1 ⊢
    rw [List.getElem?_map]
    cases hx : x.slots[t - 0]? with
    | none => rw [hx] at h1; exact h1
    | some v => rw [hx] at h1; exact subAV_ok hτ _ _ _ h1
  · obtain ⟨o', h1, _⟩ := hget l o ho
    exact hgd.2 l o' h1
end
end Go.Ab
