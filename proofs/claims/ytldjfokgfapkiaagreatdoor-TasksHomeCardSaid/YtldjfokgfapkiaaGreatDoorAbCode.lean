/-
  THE RECKONING's CODE AND FUNCTIONS are the model's: operations with calls in them; regions in their order; jumps; functions.
-/
import Derived.Test.YtldjfokgfapkiaaGreatDoorAbUni
import Derived.Scope
namespace Go.Ab

def GOk (G : Nat) (φ : PM) : Prop := ∀ g, g < G → ∃ N, φ g = some (g, N)
theorem GOk.mono {G : Nat} {φ φ' : PM} (h : φ.le φ') (hg : GOk G φ) : GOk G φ' := fun g hl => by obtain ⟨N, hN⟩ := hg g hl; exact ⟨N, h _ _ hN⟩

/-- Places lie ahead of the number. -/
def Dom (s : St) : Prop := ∀ l o, s.H.get l = some o → l < s.n

/-- Places lie ahead of the number, and so does the mark. -/
def Good (s : St) : Prop := s.wm ≤ s.n ∧ Dom s

theorem Good.step {α : Type} {m : EM α} (hm : Uni m) {s s' : St} {a : α} (h : m s = some (a, s')) (hg : Good s) : Good s' ∧ s.n ≤ s'.n := by
  obtain ⟨t, _, h2, h3, _, h5, _⟩ := hm s a s' h hg.1
  refine ⟨⟨by rw [h2]; exact Nat.le_trans hg.1 h3, fun l o ho => ?_⟩, h3⟩
  cases hh : s.H.get l with
  | none => exact (h5 l o hh ho).2
  | some x => exact Nat.lt_of_lt_of_le (hg.2 l x hh) h3

def CallOk (P : Program) (B : Nat) (ρ : Nat → Int) (G : Nat) (call : FuncId → List AV → EM AV) : Prop :=
  ∀ f args s v s' φ w (cargs : Array Value), call f args s = some (v, s') → Good s → VRels ρ φ args cargs.toList → GOk G φ → HRel B ρ φ s.H.get w → Fresh φ s.n s'.n →
    Calls P f cargs w fun e w' => ∃ φ' u, e = .returned u ∧ VRel ρ φ' v u ∧ Post B ρ φ φ' s s' w w'

def HookOk (P : Program) (ρ : Nat → Int) (hook : Hook) : Prop :=
  ∀ f args r, hook f args = some r → ∀ φ (cargs : Array Value) w, VRels ρ φ args cargs.toList →
    (∃ u, (callFunc f cargs).run P w = .ok (.value u) w ∧ VRel ρ φ r u) ∨
    ((callFunc f cargs).run P w = .ok (.enter f cargs) w ∧ Calls P f cargs w fun e w' => ∃ u, e = .returned u ∧ VRel ρ φ r u ∧ Still w w')

section
variable {P : Program} {B : Nat} {ρ : Nat → Int} {φ : PM} {en : Env} {G : Nat} {A : AAct} {a : Act} {hook : Hook} {call : FuncId → List AV → EM AV}

/-- What an operation of the reckoning comes to. -/
def OperOk (P : Program) (B : Nat) (ρ : Nat → Int) (φ : PM) (o : Oper) (a : Act) (s s' : St) (v : AV) (w : World) : Prop :=
  ∀ (K : Act → World → Prop) (Q : Exit → Act → World → Prop), (∀ φ' u w', VRel ρ φ' v u → Post B ρ φ φ' s s' w w' → K (a.put o.dst u) w') → o.wp P a w K Q

theorem OperOk.of_gives {o : Oper} {s s' : St} {v : AV} {w : World} (h : ∃ φ' u w', Gives P (execOp a.eval o) w u w' ∧ VRel ρ φ' v u ∧ Post B ρ φ φ' s s' w w') :
    OperOk P B ρ φ o a s s' v w := by
  intro K Q hK
  obtain ⟨φ', u, w', hg, hv, hp⟩ := h
  unfold Oper.wp
  rcases hg with hg | ⟨hg, rfl⟩
  · rw [hg]; exact hK φ' u w' hv hp
  · rw [hg]; exact hK φ' undef w' hv hp

theorem OperOk.of_calls {o : Oper} {s s' : St} {v : AV} {w : World} {f : FuncId} {cargs : Array Value} (hr : (execOp a.eval o).run P w = .ok (.enter f cargs) w)
    (h : Calls P f cargs w fun e w' => ∃ φ' u, e = .returned u ∧ VRel ρ φ' v u ∧ Post B ρ φ φ' s s' w w') : OperOk P B ρ φ o a s s' v w := by
  intro K Q hK
  unfold Oper.wp
  rw [hr]
  refine Calls.mono h fun e w' he => ?_
  obtain ⟨φ', u, rfl, hv, hp⟩ := he
  exact hK φ' u w' hv hp

theorem callFunc_enter {f : Nat} {fn : Func} {c : Code} (hf : P.funcs[f]? = some fn) (hb : fn.body = some c) (hn : (fn.name == "runtime.NumGoroutine") = false) (args : Array Value) (w : World) :
    (callFunc f args).run P w = .ok (.enter f args) w := by
  simp only [callFunc, Sem.run_bind, run_program, Result.andThen_ok, hf, hn, hb, Option.isNone_some, Bool.false_eq_true, if_false, Sem.run_pure]

theorem exec_call {c : Call} {dst : Option Tmp} {type : TypeId} {pos : String} {after : Array Edge} {guard : Option (Nat × Bool)} {x : Operand} {f : FuncId} {us vs : Array Value}
    (hc : c.callee = .value x) (hx : a.eval x = .func (.func f) us vs) (w : World) :
    (execOp a.eval ⟨dst, .call c, type, pos, after, guard⟩).run P w = (callFunc f (us ++ (c.args.map a.eval ++ vs))).run P w := by
  simp only [execOp, resolve, hc, hx, Deferred.ofValue, Sem.run_bind, Sem.run_pure, Result.andThen_ok, invoke, Array.append_assoc]

theorem oper_ok (he : EnvOk ρ en) (hhook : HookOk P ρ hook) (hcall : CallOk P B ρ G call) {o : Oper} (hop : ∀ x ∈ o.op.operands, OpR ρ φ G A a x) {s s' : St} {v : AV} {w : World}
    (h : aOper P G en hook call A o s = some (v, s')) (hgd : Good s) (hG : GOk G φ) (hH : HRel B ρ φ s.H.get w) (hf : Fresh φ s.n s'.n) : OperOk P B ρ φ o a s s' v w := by
  obtain ⟨dst, op, type, pos, after, guard⟩ := o
  unfold aOper at h
  cases op
  case call c =>
    dsimp only at h
    cases hcb : c.callee with
    | builtin b =>
      rw [hcb] at h
      dsimp only at h
      cases hargs : A.evals G c.args.toList with
      | none => rw [hargs] at h; exact (fail_spec h).elim
      | some args =>
        rw [hargs] at h
        dsimp only at h
        cases hm : aBuiltin P en b c.argTypes.toList args with
        | some m =>
          rw [hm] at h
          dsimp only at h
          have hv := evals_rel (ρ := ρ) (φ := φ) (a := a) _ _ hargs (fun x hx => hop x (by simp [Op.operands, Call.operands]; right; simpa using hx))
          have hb := builtin_sim (P := P) (B := B) (t2 := type) (cs := c.args.map fun | .const _ => true | _ => false) (vs := c.args.map a.eval) he (by simpa using hv) hm
          obtain ⟨φ', u, w', hg, hvv, hp⟩ := hb s v s' w h hH hf
          refine OperOk.of_gives ⟨φ', u, w', ?_, hvv, hp⟩
          have e : (execOp a.eval ⟨dst, .call c, type, pos, after, guard⟩).run P w = (builtin b c.argTypes type (c.args.map fun | .const _ => true | _ => false) (c.args.map a.eval)).run P w := by
            simp only [execOp, resolve, hcb, Sem.run_bind, Sem.run_pure, Result.andThen_ok, invoke]
            rfl
          unfold Gives
          rw [e]
          exact hg
        | none =>
          rw [hm] at h
          exact OperOk.of_gives (ground_sim (fun _ _ => by simp) hop s v s' w h hH hf)
    | value x =>
      rw [hcb] at h
      dsimp only at h
      have hfun : ∃ f xs ys args, A.eval G x = some (.func (.func f) xs ys) ∧ A.evals G c.args.toList = some args := by
        cases hx : A.eval G x with
        | none => rw [hx] at h; exact (fail_spec h).elim
        | some xv =>
          cases hargs : A.evals G c.args.toList with
          | none =>
            rw [hx, hargs] at h
            cases xv <;> first | exact (fail_spec h).elim | (rename_i fn _ _; cases fn <;> exact (fail_spec h).elim)
          | some args =>
            rw [hx, hargs] at h
            cases xv <;> first | exact (fail_spec h).elim | (rename_i fn us vs; cases fn <;> first | exact ⟨_, _, _, _, rfl, rfl⟩ | exact (fail_spec h).elim)
      · obtain ⟨f, xs, ys, args, hx, hargs⟩ := hfun
        rw [hx, hargs] at h
        dsimp only at h
        have hv := evals_rel (ρ := ρ) (φ := φ) (a := a) _ _ hargs (fun x hx => hop x (by simp [Op.operands, Call.operands]; right; simpa using hx))
        have hxr := hop x (by simp [Op.operands, Call.operands, hcb]) _ hx
        generalize hxe : a.eval x = xv at hxr
        cases hxr with
        | func _ _ _ us vs h1 h2 =>
          have hall : VRels ρ φ (xs ++ (args ++ ys)) (us ++ (c.args.map a.eval ++ vs)).toList := by
            simp only [Array.toList_append, Array.toList_map]
            exact h1.append (hv.append h2)
          have hrun := exec_call (P := P) (dst := dst) (type := type) (pos := pos) (after := after) (guard := guard) hcb hxe w
          have enter : aEnter P hook call f (xs ++ (args ++ ys)) s = some (v, s') → OperOk P B ρ φ ⟨dst, .call c, type, pos, after, guard⟩ a s s' v w := by
            intro h
            unfold aEnter at h
            cases hr : hook f (xs ++ (args ++ ys)) with
            | some r =>
              rw [hr] at h
              obtain ⟨rfl, rfl⟩ := pure_spec h
              rcases hhook f _ _ hr φ _ w hall with ⟨u, hu, hvu⟩ | ⟨hu, hvu⟩
              · exact OperOk.of_gives ⟨φ, u, w, .inl (by rw [hrun, hu]), hvu, Post.same hH rfl rfl (Fr.refl _ _)⟩
              · refine OperOk.of_calls (by rw [hrun, hu]) (hvu.mono fun e w' he => ?_)
                obtain ⟨u, rfl, hvv, hst⟩ := he
                exact ⟨φ, u, rfl, hvv, Post.same hH rfl rfl hst⟩
            | none =>
              rw [hr] at h
              dsimp only at h
              cases hfn : P.funcs[f]? with
              | none => rw [hfn] at h; exact (fail_spec h).elim
              | some fn =>
                rw [hfn] at h
                dsimp only at h
                cases hcc : fn.body with
                | none => rw [hcc] at h; exact (fail_spec h).elim
                | some cc =>
                  rw [hcc] at h
                  dsimp only at h
                  cases hnm : fn.name == "runtime.NumGoroutine"
                  · rw [hnm] at h
                    refine OperOk.of_calls (by rw [hrun]; exact callFunc_enter hfn hcc hnm _ w) ?_
                    exact hcall f _ s v s' φ w _ h hgd hall hG hH hf
                  · rw [hnm] at h; exact (fail_spec h).elim
          cases hr : hook f (xs ++ (args ++ ys)) <;> cases hx : isExtern P f <;> rw [hr, hx] at h <;> dsimp only at h
          · exact enter h
          · exact OperOk.of_gives (ground_sim (fun _ _ => by simp) hop s v s' w h hH hf)
          · exact enter h
          · exact enter h
    | invoke x n => rw [hcb] at h; exact (fail_spec h).elim
  all_goals exact OperOk.of_gives (op_sim he hop s v s' w h hH hf)

/- the frame -/
structure ARel (ρ : Nat → Int) (φ : PM) (A : AAct) (a : Act) : Prop where
  defers : a.defers = []
  size : a.tmps.size = A.N
  vals : ∀ t, VRel ρ φ (A.get t) (a.tmps.getD t undef)

theorem ARel.mono {φ' : PM} (h : φ.le φ') (ha : ARel ρ φ A a) : ARel ρ φ' A a := ⟨ha.defers, ha.size, fun t => (ha.vals t).mono h⟩

theorem eval_ok (hG : GOk G φ) (x : Operand) (hx : ∀ t, x = .tmp t → VRel ρ φ (A.get t) (a.tmps.getD t undef)) : OpR ρ φ G A a x := by
  intro v hv
  cases x with
  | tmp t => simp only [AAct.eval, Option.some.injEq] at hv; subst hv; exact hx t rfl
  | const c => exact (toAV_rel FU).1 _ _ hv
  | global g =>
    simp only [AAct.eval] at hv
    split at hv
    · rename_i hlt
      simp only [Option.some.injEq] at hv; subst hv
      obtain ⟨N, hN⟩ := hG g (Nat.le_of_ble_eq_true hlt)
      exact .ptr _ _ _ N hN
    · simp at hv
  | func f => simp only [AAct.eval, Option.some.injEq] at hv; subst hv; exact .func _ _ _ _ _ .nil .nil
theorem ARel.op (ha : ARel ρ φ A a) (hG : GOk G φ) (x : Operand) : OpR ρ φ G A a x := eval_ok hG x fun t _ => ha.vals t

theorem get_set_tm {N : Nat} {tm : Tr AV} {d : Nat} {v : AV} (t : Nat) : (AAct.mk N (tm.set d v)).get t = if t = d then v else (AAct.mk N tm).get t := by
  unfold AAct.get
  simp only [Tr.get_set]
  by_cases e : t = d
  · rw [if_pos e, if_pos e]
  · rw [if_neg e, if_neg e]

/-- A slot that is written. -/
theorem ARel.put {dst : Option Nat} {v : AV} {u : Value} {A' : AAct} (ha : ARel ρ φ A a) (hv : VRel ρ φ v u)
    (hA : (match dst with | none => some A | some d => if d < A.N then some ⟨A.N, A.tm.set d v⟩ else none) = some A') : ARel ρ φ A' (a.put dst u) := by
  cases dst with
  | none => simp only [Option.some.injEq] at hA; subst hA; exact ha
  | some d =>
    simp only at hA
    split at hA
    · rename_i hd
      simp only [Option.some.injEq] at hA
      subst hA
      refine ⟨ha.defers, by simp [Act.put, ha.size], fun t => ?_⟩
      rw [get_set_tm]
      by_cases e : t = d
      · subst e
        rw [if_pos rfl]
        have : (a.put (some t) u).tmps.getD t undef = u := by
          simp [Act.put, Array.getD, ha.size, hd]
        rw [this]; exact hv
      · rw [if_neg e]
        have : (a.put (some d) u).tmps.getD t undef = a.tmps.getD t undef := by
          simp only [Act.put, Array.getD_eq_getD_getElem?, Array.getElem?_setIfInBounds, if_neg (Ne.symm e)]
        rw [this]; exact ha.vals t
    · simp at hA

theorem wanted_ok {ops : Array Oper} {o : Oper} {b : Bool} (hx : ∀ j want d, o.guard = some (j, want) → (ops[j]?).bind (·.dst) = some d → VRel ρ φ (A.get d) (a.tmps.getD d undef))
    (hs : a.tmps.size = A.N) (h : aWanted ops A o = some b) : Region.wanted o (yielded ops a.tmps) = b := by
  unfold aWanted at h
  unfold Region.wanted
  cases hg : o.guard with
  | none => rw [hg] at h; simpa using h
  | some p =>
    obtain ⟨j, want⟩ := p
    rw [hg] at h
    dsimp only at h ⊢
    cases hd : (ops[j]?).bind (·.dst) with
    | none =>
      rw [hd] at h
      simp only [Option.some.injEq] at h
      subst h
      simp [yielded, hd]
    | some d =>
      rw [hd] at h
      dsimp only at h
      have hv := hx j want d hg hd
      split at h
      · rename_i hlt hval
        simp only [Option.some.injEq] at h
        subst h
        rw [hval] at hv
        have hlt : d < a.tmps.size := by rw [hs]; exact Nat.le_of_ble_eq_true hlt
        have e : a.tmps[d]? = some (a.tmps.getD d undef) := by simp [Array.getD, hlt]
        generalize a.tmps.getD d undef = u at *
        cases hv with
        | bool _ => simp [yielded, hd, e]
      · rename_i hlt hval
        simp only [Option.some.injEq] at h
        subst h
        have hlt : d < a.tmps.size := by rw [hs]; exact Nat.le_of_ble_eq_true hlt
        have e : a.tmps[d]? = some (a.tmps.getD d undef) := by simp [Array.getD, hlt]
        generalize a.tmps.getD d undef = u at *
        have : ∀ c, u ≠ .bool c := by
          rintro c rfl
          generalize hq : A.get d = q at *
          cases hv with
          | bool _ => exact hval _ rfl
        have e2 : yielded ops a.tmps j = none := by
          simp only [yielded, hd, Option.bind_some, e]
          cases u <;> first | rfl | exact absurd rfl (this _)
        simp [e2]
      · simp at h
end
end Go.Ab
