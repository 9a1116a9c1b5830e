/-
  EACH OPERATION OF THE RECKONING is one of the model's: the theorem.
-/
import Derived.Test.YtldjfokgfapkiaaGreatDoorAbSim6
namespace Go.Ab

section
variable {P : Program} {B : Nat} {ρ : Nat → Int} {φ : PM} {en : Env} {G : Nat} {A : AAct} {a : Act}

theorem emO_sim {x : Operand} {k : AV → EM AV} {sem : Sem Next} (hop : OpR ρ φ G A a x) (h : ∀ v, VRel ρ φ v (a.eval x) → SimN P B ρ φ (k v) sem) :
    SimN P B ρ φ (emO (A.eval G x) k) sem := by
  intro s v s' w hm hH hf
  obtain ⟨v0, h0, h1⟩ := emO_spec hm
  exact h v0 (hop v0 h0) s v s' w h1 hH hf

theorem emZ_sim {x : Option AV} {k : AV → EM AV} {sem : Sem Next} (h : ∀ v, x = some v → SimN P B ρ φ (k v) sem) : SimN P B ρ φ (emO x k) sem := by
  intro s v s' w hm hH hf
  obtain ⟨v0, h0, h1⟩ := emO_spec hm
  exact h v0 h0 s v s' w h1 hH hf

theorem liftN {x : Option AV} {sem : Sem Value} (h : ∀ v, x = some v → ∃ u, (∀ w, sem.run P w = .ok u w) ∧ VRel ρ φ v u) : SimN P B ρ φ (EM.lift x) (do pure (.value (← sem))) :=
  SimN.lift fun v hv => by
    obtain ⟨u, hu, hr⟩ := h v hv
    exact ⟨u, fun w => .inl (by simp [hu]), hr⟩

theorem ground_sim {o : Oper} (hs : ∀ cs b, o.op ≠ .select cs b) (hop : ∀ x ∈ o.op.operands, OpR ρ φ G A a x) : SimN P B ρ φ (EM.lift (aGround P G A o)) (execOp a.eval o) :=
  SimN.lift fun _ hv => ground_gives hs hop hv

theorem orG_sim {o : Oper} {known : Bool} {x : Option AV} (hs : ∀ cs b, o.op ≠ .select cs b) (hop : ∀ x ∈ o.op.operands, OpR ρ φ G A a x)
    (h : ∀ v, x = some v → ∃ u, (∀ w, Gives P (execOp a.eval o) w u w) ∧ VRel ρ φ v u) : SimN P B ρ φ (orG P G A o known x) (execOp a.eval o) := by
  cases known
  · exact SimN.lift h
  · exact ground_sim hs hop

theorem bin_val (he : EnvOk ρ en) {op : BinOp} {t : Nat} {x y v : AV} {u z : Value} {a1 a2 : Operand} (hx : VRel ρ φ x u) (hy : VRel ρ φ y z) (h : aBin P en op t x y = some v) :
    ∃ r, (∀ w, (do eqGuard op t a1 a2 u z; binOp op t u z : Sem Value).run P w = .ok r w) ∧ VRel ρ φ v r := by
  unfold aBin at h
  split at h
  · split at h
    · rename_i e hbits
      simp only [Option.some.injEq] at h; subst h
      cases hx with
      | int _ _ _ hx => cases hy with
        | int _ _ _ hy =>
          subst hx hy
          exact ⟨_, fun w => by rw [eqGuard_at_int]; exact aBits_ok (P := P) (t := t) he hbits w, .int _ _ _ rfl⟩
    split at h
    · rename_i hk
      subst hk
      cases hx with
      | int _ _ _ hx => cases hy with
        | int _ _ _ hy =>
          subst hx hy
          obtain ⟨r, hr, hv⟩ := aInt_ok (P := P) (φ := φ) (t := t) he h
          exact ⟨r, fun w => by rw [eqGuard_at_int]; exact hr w, hv⟩
    · simp at h
  · cases hx with
    | float _ _ _ hx => cases hy with
      | float _ _ _ hy =>
        subst hx hy
        obtain ⟨r, hr, hv⟩ := aFloat_ok (P := P) (φ := φ) (t := t) he h
        exact ⟨r, fun w => by rw [eqGuard_at_float]; exact hr w, hv⟩
  · cases hx with
    | complex _ _ _ _ _ h1 h2 => cases hy with
      | complex _ _ _ _ _ h3 h4 =>
        subst h1 h2 h3 h4
        obtain ⟨r, hr, hv⟩ := aCplx_ok (P := P) (φ := φ) (t := t) he h
        exact ⟨r, fun w => by rw [eqGuard_at_complex]; exact hr w, hv⟩
  · exact nil_val hx hy h

theorem un_val {op : UnOp} {x v : AV} {u : Value} (hx : VRel ρ φ x u) (h : aUn op x = some v) : ∃ r, (∀ w, (Op.unary op u).run P w = .ok r w) ∧ VRel ρ φ v r := by
  unfold aUn at h
  split at h
  · simp only [Option.some.injEq] at h; subst h
    cases hx with
    | bool _ => exact ⟨_, fun w => rfl, .bool _⟩
  · simp at h

theorem eval_tuple {u : Value} {vs : List AV} {i : Nat} {x : AV} (h : VRel ρ φ (.tuple vs) u) (hx : vs[i]? = some x) : ∃ r, (∀ w, (Instr.extract u i).run P w = .ok r w) ∧ VRel ρ φ x r := by
  cases h with
  | tuple _ us h =>
    obtain ⟨r, hr, hv⟩ := h.get hx
    refine ⟨r, fun w => ?_, hv⟩
    have : us[i]? = some r := by simpa using hr
    simp [Instr.extract, this]

theorem op_sim (he : EnvOk ρ en) {o : Oper} (hop : ∀ x ∈ o.op.operands, OpR ρ φ G A a x) : SimN P B ρ φ (aOp P G en A o) (execOp a.eval o) := by
  obtain ⟨dst, op, type, pos, after, guard⟩ := o
  simp only at hop
  cases op
  case move x => exact SimN.lift fun v hv => ⟨a.eval x, fun w => .inl rfl, hop x (by simp [Op.operands]) v hv⟩
  case assign x => exact SimN.lift fun v hv => ⟨a.eval x, fun w => .inl rfl, hop x (by simp [Op.operands]) v hv⟩
  case pick c x y =>
    simp only [aOp]
    split
    · rename_i hc
      have hc := hop c (by simp [Op.operands]) _ hc
      generalize hcv : a.eval c = cv at hc
      cases hc
      exact SimN.lift fun v hv => ⟨a.eval x, fun w => .inl (by simp [execOp, hcv, asBool]), hop x (by simp [Op.operands]) v hv⟩
    · rename_i hc
      have hc := hop c (by simp [Op.operands]) _ hc
      generalize hcv : a.eval c = cv at hc
      cases hc
      exact SimN.lift fun v hv => ⟨a.eval y, fun w => .inl (by simp [execOp, hcv, asBool]), hop y (by simp [Op.operands]) v hv⟩
    · exact SimN.fail
  case alloc el =>
    simp only [aOp]
    refine emZ_sim fun z hz => ?_
    obtain ⟨zu, hzr, hzv⟩ := zero_run hz
    refine SimV.next ((new_sim (el := el) (cells_rel (hzv ρ φ))).pre fun w => ?_)
    simp [Instr.alloc, hzr, newVar]
  case box el x =>
    simp only [aOp]
    refine emO_sim (hop x (by simp [Op.operands])) fun v hv => ?_
    exact SimV.next ((new_sim (el := el) (cells_rel hv)).pre fun w => by simp [Instr.box, newVar])
  case build t ps =>
    simp only [aOp]
    exact liftN fun v hv => build_val (fun p hp => hop p.2 (by simp [Op.operands]; exact ⟨p.1, by simpa using hp⟩)) hv
  case buildSlice t n ps =>
    simp only [aOp]
    exact SimV.next (buildSlice_sim (fun p hp => hop p.2 (by simp [Op.operands]; exact ⟨p.1, by simpa using hp⟩)))
  case load t x =>
    simp only [aOp]
    exact emO_sim (hop x (by simp [Op.operands])) fun v hv => SimV.next (load_sim hv)
  case store t x y =>
    simp only [aOp]
    exact emO_sim (hop x (by simp [Op.operands])) fun v hv => emO_sim (hop y (by simp [Op.operands])) fun v' hv' => SimU.next (store_sim hv hv')
  case nilCheck x =>
    simp only [aOp]
    split
    · rename_i l off hx
      have hx := hop x (by simp [Op.operands]) _ hx
      generalize hxv : a.eval x = xv at hx
      cases hx with
      | ptr _ _ b N hφ => exact pureN_sim (fun w => by simp [execOp, hxv]) (.ptr _ _ b N hφ)
    · rename_i f xs ys hx
      have hx := hop x (by simp [Op.operands]) _ hx
      generalize hxv : a.eval x = xv at hx
      cases hx with
      | func _ _ _ us vs h1 h2 => exact pureN_sim (fun w => by simp [execOp, hxv]) (.func _ _ _ _ _ h1 h2)
    · exact SimN.fail
  case binOp op t x y yt =>
    simp only [aOp]
    refine emO_sim (hop x (by simp [Op.operands])) fun u hu => emO_sim (hop y (by simp [Op.operands])) fun v hv => ?_
    refine orG_sim (fun _ _ => by simp) hop fun r hr => ?_
    obtain ⟨z, hz, hzv⟩ := bin_val (P := P) (a1 := x) (a2 := y) he hu hv hr
    refine ⟨z, fun w => .inl ?_, hzv⟩
    show (do pure (.value (← (do eqGuard op t x y (a.eval x) (a.eval y); binOp op t (a.eval x) (a.eval y)))) : Sem Next).run P w = _
    rw [Sem.run_bind, hz w]
    rfl
  case unOp op t x =>
    simp only [aOp]
    refine emO_sim (hop x (by simp [Op.operands])) fun u hu => ?_
    refine orG_sim (fun _ _ => by simp) hop fun r hr => ?_
    obtain ⟨z, hz, hzv⟩ := un_val (P := P) hu hr
    exact ⟨z, fun w => .inl (by simp [execOp, hz]), hzv⟩
  case convert src dst x =>
    simp only [aOp]
    refine emO_sim (hop x (by simp [Op.operands])) fun u hu => ?_
    refine orG_sim (fun _ _ => by simp) hop fun r hr => ?_
    obtain ⟨z, hz, hzv⟩ := conv_val (P := P) he hu hr
    exact ⟨z, fun w => .inl (by simp [execOp, hz]), hzv⟩
  case makeInterface t x =>
    simp only [aOp]
    split
    · exact SimN.fail
    · rename_i d hd1 hd
      refine emO_sim (hop x (by simp [Op.operands])) fun u hu => ?_
      refine pureN_sim (u := .iface t (a.eval x)) (fun w => ?_) (.iface _ _ _ hu)
      have : (Instr.makeInterface t (a.eval x)).run P w = .ok (.iface t (a.eval x)) w := by
        simp only [Instr.makeInterface, Sem.run_bind, under_run hd, Result.andThen_ok]
        cases d <;> first | rfl | exact absurd hd (hd1 _)
      simp [execOp, this]
    · exact SimN.fail
  case makeFunc fn first cap =>
    simp only [aOp]
    split
    · rename_i xs ys h1 h2
      refine pureN_sim (u := .func fn (first.map a.eval) (cap.map a.eval)) (fun w => rfl) (.func _ _ _ _ _ ?_ ?_)
      · have := evals_rel (ρ := ρ) (φ := φ) (a := a) _ _ h1 (fun x hx => hop x (by simp [Op.operands]; exact .inl (by simpa using hx)))
        simpa using this
      · have := evals_rel (ρ := ρ) (φ := φ) (a := a) _ _ h2 (fun x hx => hop x (by simp [Op.operands]; exact .inr (by simpa using hx)))
        simpa using this
    · exact SimN.fail
  case makeMap t r =>
    cases r with
    | some x => simp only [aOp]; exact SimN.fail
    | none =>
      simp only [aOp]
      intro s v s' w hm hH hf
      obtain ⟨l, s1, h1, h2⟩ := bind_spec hm
      obtain ⟨rfl, rfl⟩ := pure_spec h2
      obtain ⟨rfl, hset, hn⟩ := newO_spec h1
      have hfn : φ s.n = none := hf s.n (Nat.le_refl _) (by omega)
      refine ⟨_, .map (some w.heap.size), _, .inl ?_, .map _ w.heap.size 0 (PM.put_self _ _), Post.made (o := .map [] (some 0)) (x := .map #[] 0) (d := w.drawn) hH hfn hset hn rfl fun _ => ⟨.nil, fun n h => by simpa using h⟩⟩
      simp [execOp, Instr.makeMap]
  case makeSlice t l c =>
    simp only [aOp]
    exact emO_sim (hop l (by simp [Op.operands])) fun v hv => emO_sim (hop c (by simp [Op.operands])) fun v' hv' => SimV.next (makeSlice_sim hv hv')
  case slice t x lo hi mx =>
    simp only [aOp]
    split
    · exact SimV.next (slice_sim (hop x (by simp [Op.operands])) (fun y hy => hop y (by rcases hy with rfl | rfl | rfl <;> simp [Op.operands])))
    · exact ground_sim (fun _ _ => by simp) hop
  case fieldAddr t x f =>
    simp only [aOp]
    exact emO_sim (hop x (by simp [Op.operands])) fun v hv => liftN fun r hr => fieldAddr_val hv hr
  case field t x f =>
    simp only [aOp]
    exact emO_sim (hop x (by simp [Op.operands])) fun v hv => liftN fun r hr => field_val hv hr
  case indexAddr t x ix =>
    simp only [aOp]
    exact emO_sim (hop x (by simp [Op.operands])) fun v hv => emO_sim (hop ix (by simp [Op.operands])) fun v' hv' => liftN fun r hr => indexAddr_val hv hv' hr
  case index t x ix =>
    simp only [aOp]
    refine emO_sim (hop x (by simp [Op.operands])) fun v hv => emO_sim (hop ix (by simp [Op.operands])) fun v' hv' => ?_
    split
    · exact liftN fun r hr => index_val hv hv' hr
    · exact ground_sim (fun _ _ => by simp) hop
  case lookup t x k ok =>
    simp only [aOp]
    exact emO_sim (hop x (by simp [Op.operands])) fun v hv => emO_sim (hop k (by simp [Op.operands])) fun v' hv' => SimV.next (lookup_sim he hv hv')
  case mapUpdate t m k x =>
    simp only [aOp]
    exact emO_sim (hop m (by simp [Op.operands])) fun v hv => emO_sim (hop k (by simp [Op.operands])) fun v' hv' => emO_sim (hop x (by simp [Op.operands])) fun v2 hv2 => SimU.next (mapUpdate_sim he hv hv' hv2)
  case insert t m k x =>
    simp only [aOp]
    exact emO_sim (hop m (by simp [Op.operands])) fun v hv => emO_sim (hop k (by simp [Op.operands])) fun v' hv' => emO_sim (hop x (by simp [Op.operands])) fun v2 hv2 => SimU.next (mapUpdate_sim he hv hv' hv2)
  case mapEntry t m k =>
    simp only [aOp]
    exact emO_sim (hop m (by simp [Op.operands])) fun v hv => emO_sim (hop k (by simp [Op.operands])) fun v' hv' => SimV.next (mapEntry_sim he hv hv')
  case entryStore t m z x =>
    simp only [aOp]
    exact emO_sim (hop m (by simp [Op.operands])) fun v hv => emO_sim (hop z (by simp [Op.operands])) fun v' hv' => emO_sim (hop x (by simp [Op.operands])) fun v2 hv2 => SimU.next (entryStore_sim hv hv' hv2)
  case extract t i =>
    simp only [aOp]
    refine emO_sim (hop t (by simp [Op.operands])) fun v hv => ?_
    split
    · exact liftN fun r hr => eval_tuple hv hr
    · exact SimN.fail
  all_goals (simp only [aOp]; exact SimN.fail)
end
end Go.Ab
