/-
  EACH OPERATION OF THE RECKONING is one of the model's: maps.
-/
import Derived.Test.YtldjfokgfapkiaaGreatDoorAbSim3
import Derived.Test.YtldjfokgfapkiaaGreatDoorAbSym0
import Derived.Laws.StructEq
namespace Go.Ab

section
variable {P : Program} {B : Nat} {ρ : Nat → Int} {φ : PM} {en : Env}

theorem MRel.length {xs : List (AV × AV × Option Nat)} {es : List MapEntry} (h : MRel ρ φ xs es) : es.length = xs.length := by
  induction h with
  | nil => rfl
  | cons k v b e xs es _ _ _ _ ih => simp [ih]
theorem MRel.append {xs ys : List (AV × AV × Option Nat)} {es fs : List MapEntry} (h : MRel ρ φ xs es) (h' : MRel ρ φ ys fs) : MRel ρ φ (xs ++ ys) (es ++ fs) := by
  induction h with
  | nil => exact h'
  | cons k v b e xs es h1 h2 h3 _ ih => exact .cons _ _ _ _ _ _ h1 h2 h3 ih
theorem MRel.set {xs : List (AV × AV × Option Nat)} {es : List MapEntry} (h : MRel ρ φ xs es) (i : Nat) {k v : AV} {b : Option Nat} {e : MapEntry}
    (h1 : VRel ρ φ k e.key) (h2 : VRel ρ φ v e.val) (h3 : ∀ n, b = some n → e.born = n) : MRel ρ φ (xs.set i (k, v, b)) (es.set i e) := by
  induction h generalizing i with
  | nil => exact .nil
  | cons k' v' b' e' xs es g1 g2 g3 hr ih =>
    cases i with
    | zero => exact .cons _ _ _ _ _ _ h1 h2 h3 hr
    | succ i => exact .cons _ _ _ _ _ _ g1 g2 g3 (ih i)
theorem MRel.erase {xs : List (AV × AV × Option Nat)} {es : List MapEntry} (h : MRel ρ φ xs es) (i : Nat) : MRel ρ φ (xs.eraseIdx i) (es.eraseIdx i) := by
  induction h generalizing i with
  | nil => exact .nil
  | cons k' v' b' e' xs es g1 g2 g3 hr ih =>
    cases i with
    | zero => exact hr
    | succ i => exact .cons _ _ _ _ _ _ g1 g2 g3 (ih i)
theorem MRel.get {xs : List (AV × AV × Option Nat)} {es : List MapEntry} (h : MRel ρ φ xs es) {i : Nat} {k v : AV} {b : Option Nat} (hx : xs[i]? = some (k, v, b)) :
    ∃ e, es[i]? = some e ∧ VRel ρ φ k e.key ∧ VRel ρ φ v e.val ∧ ∀ n, b = some n → e.born = n := by
  induction h generalizing i with
  | nil => simp at hx
  | cons k' v' b' e' xs es g1 g2 g3 hr ih =>
    cases i with
    | zero => simp at hx; obtain ⟨rfl, rfl, rfl⟩ := hx; exact ⟨e', by simp, g1, g2, g3⟩
    | succ i => simpa using ih (by simpa using hx)

/-- What was found. -/
def FRel (ρ : Nat → Int) (φ : PM) : Option (Nat × AV) → Option (Nat × Value) → Prop
  | none, none => True
  | some (i, v), some (j, u) => i = j ∧ VRel ρ φ v u
  | _, _ => False

theorem equalIn_int {kt d : Nat} {k0 k : IntKind} {x y : Int} (hd : P.underlying kt = some (.int k0)) (w : World) :
    (Op.equalIn (d + 1) kt (.int k x) (.int k y)).run P w = .ok (x == y) w := by
  simp only [Op.equalIn, Sem.run_bind, under_run hd, Result.andThen_ok, if_true, Sem.run_pure]
theorem equalIn_string {kt d : Nat} {x y : ByteArray} (hd : P.underlying kt = some .string) (w : World) :
    (Op.equalIn (d + 1) kt (.string x) (.string y)).run P w = .ok (x == y) w := by
  simp only [Op.equalIn, Sem.run_bind, under_run hd, Result.andThen_ok, Sem.run_pure]
theorem equalIn_bool {kt d : Nat} {x y : Bool} (hd : P.underlying kt = some .bool) (w : World) :
    (Op.equalIn (d + 1) kt (.bool x) (.bool y)).run P w = .ok (x == y) w := by
  simp only [Op.equalIn, Sem.run_bind, under_run hd, Result.andThen_ok, Sem.run_pure]
theorem beq_int (x y : Int) : (x == y) = decide (x = y) := by rw [Bool.eq_iff_iff]; simp
theorem equal_eq (kt : Nat) (u v : Value) : Op.equal kt u v = Op.equalIn (9999 + 1) kt u v := rfl

theorem sameNow_equal {kt : Nat} {d : TypeDesc} {u v : Value} {b b' : Bool} (hd : P.underlying kt = some d) (h : Instr.sameNow d u v = some b) (he : ∀ w, (Op.equal kt u v).run P w = .ok b' w) : b = b' := by
  have hrun := he default
  rw [equal_eq] at hrun
  unfold Instr.sameNow at h
  split at h
  · rename_i k0 k x k' y
    split at h
    · rename_i hk
      simp only [Option.some.injEq] at h
      subst h hk
      rw [equalIn_int hd] at hrun
      simpa using hrun
    · simp at h
  · rename_i x y
    simp only [Option.some.injEq] at h
    subst h
    rw [equalIn_string hd] at hrun
    simpa using hrun
  · rename_i x y
    simp only [Option.some.injEq] at h
    subst h
    rw [equalIn_bool hd] at hrun
    simpa using hrun
  · simp at h

theorem checkKey_none {kt d : Nat} {u : Value} {b : Bool} (hn : P.underlying kt = none) (w : World) : (Instr.checkKey b (d + 1) kt u).run P w ≠ .ok () w := by
  simp [Instr.checkKey, underlying, hn]

theorem eqFields_run {d : Nat} {eq : TypeId → AV → AV → Option Bool} (heq : ∀ t x y b u v, eq t x y = some b → VRel ρ φ x u → VRel ρ φ y v → ∀ w, (Op.equalIn d t u v).run P w = .ok b w)
    {xs ys : List AV} {us vs : Array Value} (hx : VRels ρ φ xs us.toList) (hy : VRels ρ φ ys vs.toList) (w : World) :
    ∀ {fs : List Field} {b : Bool}, aEqFields P eq xs ys fs = some b → (Op.eqFields d us vs fs).run P w = .ok b w
  | [], b, h => by
    simp only [aEqFields, Option.some.injEq] at h; subst h
    simp [Op.eqFields]
  | f :: r, b, h => by
    unfold aEqFields at h
    unfold Op.eqFields
    split at h
    · rename_i hn
      rw [if_neg (by simpa using hn)]
      exact eqFields_run heq hx hy w h
    · rename_i hn
      rw [if_pos (by simpa using hn)]
      split at h
      · rename_i a c ha hc
        have lx := hx.length
        have ly := hy.length
        simp only [Array.length_toList] at lx ly
        obtain ⟨u, hu, hau⟩ := aPart_val (P := P) (C := us) (by rw [← lx, ← Array.length_toList, List.take_length]; exact hx) (by omega) ha
        obtain ⟨v, hv, hcv⟩ := aPart_val (P := P) (C := vs) (by rw [← ly, ← Array.length_toList, List.take_length]; exact hy) (by omega) hc
        simp only [Sem.run_bind, part_run hu, part_run hv, Result.andThen_ok]
        split at h
        · rename_i he
          simp only [heq _ _ _ _ _ _ he hau hcv w, Result.andThen_ok, Bool.not_true, Bool.false_eq_true, if_false]
          exact eqFields_run heq hx hy w h
        · rename_i he
          simp only [Option.some.injEq] at h; subst h
          simp only [heq _ _ _ _ _ _ he hau hcv w, Result.andThen_ok, Bool.not_false, if_true, Sem.run_pure]
        · simp at h
      · simp at h

theorem fieldsOf_eq {t : Nat} {fs : Array Field} (h : P.underlying t = some (.struct fs)) : P.fieldsOf t = fs := by simp [Program.fieldsOf, h]

theorem eqIn_run (he : EnvOk ρ en) : ∀ (d : Nat) (t : TypeId) (x y : AV) (b : Bool) (u v : Value), aEqIn P en d t x y = some b → VRel ρ φ x u → VRel ρ φ y v → ∀ w, (Op.equalIn d t u v).run P w = .ok b w
  | 0, _, _, _, _, _, _, h, _, _ => by simp [aEqIn] at h
  | d + 1, t, x, y, b, u, v, h, hx, hy => by
    intro w
    unfold aEqIn at h
    split at h
    · rename_i fs ht
      split at h
      · split at h
        · rename_i hp
          cases hx with
          | agg _ us q1 => cases hy with
            | agg _ vs q2 =>
              have hfs := fieldsOf_eq ht
              rw [run_equalIn_struct w d t us vs (by rw [hfs]; exact ht) hp, hfs]
              exact eqFields_run (eqIn_run he d) q1 q2 w h
        · simp at h
      · simp at h
    · rename_i k0 ht
      split at h
      · split at h
        · rename_i hk
          subst hk
          cases hx with
          | int _ _ m hm => cases hy with
            | int _ _ n hn =>
              rw [equalIn_int ht]
              have := siEqual_ok he _ _ _ h
              subst hm hn
              rw [this, beq_int]
        · simp at h
      · simp at h
    · rename_i ht
      split at h
      · simp only [Option.some.injEq] at h; subst h
        cases hx; cases hy
        exact equalIn_bool ht w
      · simp at h
    · rename_i ht
      split at h
      · simp only [Option.some.injEq] at h; subst h
        cases hx; cases hy
        exact equalIn_string ht w
      · simp at h
    · simp at h

theorem keyEq_run (he : EnvOk ρ en) {kt : Nat} {x y : AV} {u v : Value} {b : Bool} (hx : VRel ρ φ x u) (hy : VRel ρ φ y v) (h : aKeyEq P en kt x y = some b) : ∀ w, (Op.equal kt u v).run P w = .ok b w := by
  unfold aKeyEq at h
  split at h
  · rename_i u' v' hu hv
    rw [(ground_eq FU).1 _ _ _ hu hx, (ground_eq FU).1 _ _ _ hv hy]
    exact pureRun_run P _ _ h
  · exact eqIn_run he _ _ _ _ _ _ _ h hx hy

theorem find_run (he : EnvOk ρ en) {kt : Nat} {d : TypeDesc} (hd : P.underlying kt = some d) {k : AV} {u : Value} (hk : VRel ρ φ k u) :
    ∀ {xs : List (AV × AV × Option Nat)} {es : List MapEntry} (_ : MRel ρ φ xs es) (i : Nat) (r : Option (Nat × AV)), aFind P en kt k xs i = some r →
      ∃ q, FRel ρ φ r q ∧ (∀ w, (Instr.findAsking kt u es i).run P w = .ok q w) ∧ ∀ q', Instr.findNow d u es i = some q' → q' = q := by
  intro xs es hM
  induction hM with
  | nil =>
    intro i r h
    simp only [aFind, Option.some.injEq] at h
    subst h
    exact ⟨none, trivial, fun w => rfl, fun q' h => by simpa [Instr.findNow] using h.symm⟩
  | cons k' v' b' e' xs es g1 g2 g3 hr ih =>
    intro i r h
    unfold aFind at h
    split at h
    · rename_i heq
      simp only [Option.some.injEq] at h
      subst h
      have hp := keyEq_run he hk g1 heq
      refine ⟨some (i, e'.val), ⟨rfl, g2⟩, fun w => by simp [Instr.findAsking, hp], fun q' hq => ?_⟩
      unfold Instr.findNow at hq
      split at hq
      · simpa using hq.symm
      · rename_i hs; have := sameNow_equal hd hs hp; simp at this
      · simp at hq
    · rename_i heq
      have hp := keyEq_run he hk g1 heq
      obtain ⟨q, q1, q2, q3⟩ := ih (i + 1) r h
      refine ⟨q, q1, fun w => by simp [Instr.findAsking, hp, q2], fun q' hq => ?_⟩
      unfold Instr.findNow at hq
      split at hq
      · rename_i hs; have := sameNow_equal hd hs hp; simp at this
      · exact q3 q' hq
      · simp at hq
    · simp at h

theorem under_of_find {kt : Nat} (hk : P.underlying kt ≠ none) : ∃ d, P.underlying kt = some d := by
  cases h : P.underlying kt with
  | none => exact absurd h hk
  | some d => exact ⟨d, rfl⟩

theorem findKey_run (he : EnvOk ρ en) {kt : Nat} {k : AV} {u : Value} (hd : ∃ d, P.underlying kt = some d) (hk : VRel ρ φ k u) {xs : List (AV × AV × Option Nat)} {es : List MapEntry} (hM : MRel ρ φ xs es)
    {r : Option (Nat × AV)} (h : aFind P en kt k xs 0 = some r) : ∃ q, FRel ρ φ r q ∧ ∀ w, (Instr.findKey kt u es).run P w = .ok q w := by
  obtain ⟨d, hd⟩ := hd
  obtain ⟨q, q1, q2, q3⟩ := find_run he hd hk hM 0 r h
  refine ⟨q, q1, fun w => ?_⟩
  simp only [Instr.findKey, Sem.run_bind, under_run hd, Result.andThen_ok]
  split
  · rename_i q' hq; rw [q3 q' hq]; rfl
  · exact q2 w

theorem chkFields_run {d : Nat} {e : Bool} {chk : TypeId → AV → Bool} (hchk : ∀ t x u, chk t x = true → VRel ρ φ x u → ∀ w, (Instr.checkKey e d t u).run P w = .ok () w)
    {xs : List AV} {us : Array Value} (hx : VRels ρ φ xs us.toList) (w : World) :
    ∀ {fs : List Field}, aChkFields P chk xs fs = true → (forIn fs PUnit.unit fun f _ =>
        if f.name ≠ "_" then do
          let x ← part f.type us f.offset
          Instr.checkKey e d f.type x
          pure (ForInStep.yield PUnit.unit)
        else pure (ForInStep.yield PUnit.unit) : Sem PUnit).run P w = .ok PUnit.unit w
  | [], _ => by simp
  | f :: r, h => by
    unfold aChkFields at h
    simp only [List.forIn_cons, Sem.run_bind]
    split at h
    · rename_i hn
      rw [if_neg (by simpa using hn)]
      simp only [Sem.run_pure, Result.andThen_ok]
      exact chkFields_run hchk hx w h
    · rename_i hn
      rw [if_pos (by simpa using hn)]
      split at h
      · rename_i a ha
        simp only [Bool.and_eq_true] at h
        have lx := hx.length
        simp only [Array.length_toList] at lx
        obtain ⟨u, hu, hau⟩ := aPart_val (P := P) (C := us) (by rw [← lx, ← Array.length_toList, List.take_length]; exact hx) (by omega) ha
        simp only [Sem.run_bind, part_run hu, Result.andThen_ok, hchk _ _ _ h.1 hau w, Sem.run_pure]
        exact chkFields_run hchk hx w h.2
      · simp at h

theorem chk_run (e : Bool) : ∀ (d : Nat) (t : TypeId) (x : AV) (u : Value), aChk P d t x = true → VRel ρ φ x u → (∀ w, (Instr.checkKey e d t u).run P w = .ok () w) ∧ ∃ q, P.underlying t = some q
  | 0, _, _, _, h, _ => by simp [aChk] at h
  | d + 1, t, x, u, h, hx => by
    unfold aChk at h
    split at h
    · rename_i fs ht
      split at h
      · cases hx with
        | agg _ us q =>
          refine ⟨fun w => ?_, _, ht⟩
          simp only [Instr.checkKey, Sem.run_bind, under_run ht, Result.andThen_ok]
          rw [← Array.forIn_toList]
          have := chkFields_run (P := P) (e := e) (d := d) (fun t x u h1 h2 => (chk_run e d t x u h1 h2).1) q w h
          rw [this]
          rfl
      · simp at h
    · rename_i ht; exact ⟨fun w => by simp [Instr.checkKey, under_run ht], _, ht⟩
    · rename_i ht; exact ⟨fun w => by simp [Instr.checkKey, under_run ht], _, ht⟩
    · rename_i ht; exact ⟨fun w => by simp [Instr.checkKey, under_run ht], _, ht⟩
    · simp at h

theorem keyOk_run {kt : Nat} {k : AV} {u : Value} (hk : VRel ρ φ k u) (h : keyOk P kt k = true) : (∀ b w, (Instr.checkKey b 10000 kt u).run P w = .ok () w) ∧ ∃ d, P.underlying kt = some d := by
  unfold keyOk at h
  split at h
  · rename_i u' hu
    have e := (ground_eq FU).1 _ _ _ hu hk
    subst e
    split at h
    · rename_i h1 h2
      constructor
      · intro b w
        cases b
        · exact pureRun_run P _ _ h1 w
        · exact pureRun_run P _ _ h2 w
      · refine under_of_find fun hn => ?_
        exact checkKey_none (d := 9999) hn default (pureRun_run P _ _ h1 default)
    · simp at h
  · exact ⟨fun b => (chk_run b 10000 kt k u h hk).1, (chk_run true 10000 kt k u h hk).2⟩

theorem mapT_spec {t kt et : Nat} (h : mapT P t = some (kt, et)) : P.underlying t = some (.map kt et) := by
  unfold mapT at h
  split at h
  · rename_i k e he; simp only [Option.some.injEq, Prod.mk.injEq] at h; obtain ⟨rfl, rfl⟩ := h; exact he
  · simp at h

/-- A map that lies there. -/
theorem map_at {s s1 : St} {l : Nat} {o : AObj} {u : Value} {w : World} (hx : VRel ρ φ (.map l) u) (h1 : rd l s = some (o, s1)) (hH : HRel B ρ φ s.H.get w) :
    s1.H = s.H ∧ s1.n = s.n ∧ ∃ b N, u = .map (some b) ∧ φ l = some (b, N) ∧ ∀ es ck, o = .map es ck → ∃ E clock, w.heap[b]? = some (.map E clock) ∧ MRel ρ φ es E.toList ∧
      (∀ n, ck = some n → clock = n) := by
  obtain ⟨ho, ha, hs1, hn1⟩ := rd_spec h1
  cases hx with
  | map _ b N hφ =>
    refine ⟨hs1, hn1, b, N, rfl, hφ, fun es ck he => ?_⟩
    subst he
    obtain ⟨b2, N2, x, g1, g2, g3, g4⟩ := hH.at_ l _ ho ha
    rw [hφ] at g1
    simp only [Option.some.injEq, Prod.mk.injEq] at g1
    obtain ⟨rfl, rfl⟩ := g1
    cases x <;> simp only [ORel] at g3
    rename_i E clock
    exact ⟨E, clock, g2, g3.1, g3.2⟩

theorem getObj_run {w : World} {b : Nat} {E : Array MapEntry} {clock : Nat} (h : w.heap[b]? = some (.map E clock)) : (getObj b).run P w = .ok (.map E clock) w := by
  simp [getObj, Sem.run, h]
theorem setObj_run {w : World} {b : Nat} {E : Array MapEntry} {clock : Nat} (o : Obj) (h : w.heap[b]? = some (.map E clock)) : (setObj b o).run P w = .ok () { w with heap := w.heap.setIfInBounds b o } := by
  simp [setObj, Sem.run, h]

/-- A map that is another one. -/
theorem map_wr {s s1 s' : St} {l b N : Nat} {es es' : List (AV × AV × Option Nat)} {ck ck' : Option Nat} {E' : Array MapEntry} {clock' : Nat} {u : Unit} {w : World}
    (hr : rd l s = some (.map es ck, s1)) (hw : wr l (.map es' ck') s1 = some (u, s')) (hH : HRel B ρ φ s.H.get w) (hφ : φ l = some (b, N)) (hM : MRel ρ φ es' E'.toList)
    (hc : ∀ n, ck' = some n → clock' = n) : Post B ρ φ φ s s' w { w with heap := w.heap.setIfInBounds b (.map E' clock') } := by
  obtain ⟨ho, ha, hs1, hn1⟩ := rd_spec hr
  obtain ⟨o', ho', ha', hro', hset, hn'⟩ := wr_spec hw
  rw [hs1] at ho' hset
  rw [ho] at ho'
  simp only [Option.some.injEq] at ho'
  subst ho'
  exact Post.write hH ho ha rfl hφ hset (by omega) rfl fun _ => ⟨hM, hc⟩

theorem lookup_sim (he : EnvOk ρ en) {t : Nat} {x k : AV} {m u : Value} {ok : Bool} (hx : VRel ρ φ x m) (hk : VRel ρ φ k u) : SimV P B ρ φ (aLookup P en t x k ok) (Instr.lookup t m u ok) := by
  unfold aLookup
  split
  · exact SimV.fail
  · rename_i kt et hmt
    have hu := mapT_spec hmt
    split
    · rename_i l hko
      obtain ⟨hck, hd⟩ := keyOk_run hk hko
      intro s v s' w hm hH hf
      obtain ⟨o, s1, h1, h2⟩ := bind_spec hm
      obtain ⟨hs1, hn1, b, N, rfl, hφ, hmap⟩ := map_at hx h1 hH
      split at h2
      · rename_i es ck
        obtain ⟨E, clock, g2, g3, -⟩ := hmap es ck rfl
        rcases hf : aFind P en kt k es 0 with _ | _ | ⟨i, v'⟩ <;> rw [hf] at h2 <;> (try dsimp only at h2)
        · exact (fail_spec h2).elim
        rotate_left
        · obtain ⟨q, q1, q2⟩ := findKey_run he hd hk g3 hf
          cases q with
          | none => simp [FRel] at q1
          | some p =>
            obtain ⟨j, uv⟩ := p
            obtain ⟨rfl, hv⟩ := q1
            obtain ⟨rfl, rfl⟩ := pure_spec h2
            cases ok
            · exact ⟨φ, uv, w, by simp [Instr.lookup, under_run hu, getObj_run g2, hck, q2], hv, Post.same hH hs1 hn1 (Fr.refl _ _)⟩
            · exact ⟨φ, .tuple #[uv, .bool true], w, by simp [Instr.lookup, under_run hu, getObj_run g2, hck, q2], .tuple _ _ (.cons _ _ _ _ hv (.cons _ _ _ _ (.bool _) .nil)), Post.same hH hs1 hn1 (Fr.refl _ _)⟩
        · cases hz : zeroAV P et <;> rw [hz] at h2 <;> (try dsimp only at h2)
          · exact (fail_spec h2).elim
          · rename_i z
            obtain ⟨zu, hzr, hzv⟩ := zero_run hz
            obtain ⟨q, q1, q2⟩ := findKey_run he hd hk g3 hf
            cases q with
            | some p => simp [FRel] at q1
            | none =>
              obtain ⟨rfl, rfl⟩ := pure_spec h2
              cases ok
              · exact ⟨φ, zu, w, by simp [Instr.lookup, under_run hu, getObj_run g2, hck, q2, hzr], hzv _ _, Post.same hH hs1 hn1 (Fr.refl _ _)⟩
              · exact ⟨φ, .tuple #[zu, .bool false], w, by simp [Instr.lookup, under_run hu, getObj_run g2, hck, q2, hzr], .tuple _ _ (.cons _ _ _ _ (hzv _ _) (.cons _ _ _ _ (.bool _) .nil)), Post.same hH hs1 hn1 (Fr.refl _ _)⟩
      · exact (fail_spec h2).elim
    · exact SimV.fail

theorem keyStays_run {k k' : AV} {u u' : Value} (hk : VRel ρ φ k u) (hk' : VRel ρ φ k' u') (h : keyStays k k' = true) (w : World) : (Instr.keyThatStays u' u).run P w = .ok u w := by
  unfold keyStays at h
  split at h
  · rename_i x y hx hy
    rw [(ground_eq FU).1 _ _ _ hx hk, (ground_eq FU).1 _ _ _ hy hk']
    simp [Instr.keyThatStays, h]
  · simp at h

theorem modify_set {E : Array MapEntry} {i : Nat} {e : MapEntry} (f : MapEntry → MapEntry) (h : E.toList[i]? = some e) : (E.modify i f).toList = E.toList.set i (f e) := by
  have h2 : E[i]? = some e := by simpa using h
  apply List.ext_getElem?
  intro j
  rw [Array.getElem?_toList, Array.getElem?_modify, List.getElem?_set, Array.getElem?_toList]
  have hi : i < E.toList.length := by
    rcases Nat.lt_or_ge i E.toList.length with h' | h'
    · exact h'
    · rw [List.getElem?_eq_none h'] at h; simp at h
  by_cases hj : i = j
  · subst hj; rw [if_pos rfl, if_pos rfl, if_pos hi, h2]; rfl
  · rw [if_neg hj, if_neg hj]

theorem mapUpdate_sim (he : EnvOk ρ en) {t : Nat} {x k v : AV} {m u y : Value} (hx : VRel ρ φ x m) (hk : VRel ρ φ k u) (hv : VRel ρ φ v y) : SimU P B ρ φ (aMapUpdate P en t x k v) (Instr.mapUpdate t m u y) := by
  unfold aMapUpdate
  split
  · intro _ _ _ _ h _ _; exact (fail_spec h).elim
  · rename_i kt et hmt
    have hu := mapT_spec hmt
    split
    · rename_i l hko
      obtain ⟨hck, hd⟩ := keyOk_run hk hko
      intro s un s' w hm hH hf
      obtain ⟨o, s1, h1, h2⟩ := bind_spec hm
      obtain ⟨hs1, hn1, b, N, rfl, hφ, hmap⟩ := map_at hx h1 hH
      split at h2
      · rename_i es ck
        obtain ⟨E, clock, g2, g3, g4⟩ := hmap es ck rfl
        rcases hfd : aFind P en kt k es 0 with _ | _ | ⟨i, v'⟩ <;> rw [hfd] at h2 <;> (try dsimp only at h2)
        · exact (fail_spec h2).elim
        · obtain ⟨q, q1, q2⟩ := findKey_run he hd hk g3 hfd
          cases q with
          | some p => simp [FRel] at q1
          | none =>
            refine ⟨φ, _, ?_, map_wr (E' := E.push { key := u, val := y, born := clock }) (clock' := clock + 1) h1 h2 hH hφ ?_ ?_⟩
            · simp [Instr.mapUpdate, under_run hu, getObj_run g2, hck, q2, setObj_run _ g2]
            · simpa using g3.append (.cons k v ck _ _ _ hk hv g4 .nil)
            · intro n hn
              cases ck with
              | none => simp [nextO] at hn
              | some c => simp only [nextO, Option.some.injEq] at hn; rw [g4 c rfl, hn]
        · obtain ⟨q, q1, q2⟩ := findKey_run he hd hk g3 hfd
          cases q with
          | none => simp [FRel] at q1
          | some p =>
            obtain ⟨j, uv⟩ := p
            obtain ⟨rfl, -⟩ := q1
            rcases hes : es[i]? with _ | ⟨k', v2, bn⟩ <;> rw [hes] at h2 <;> (try dsimp only at h2)
            · exact (fail_spec h2).elim
            · cases hst : keyStays k k'
              · rw [hst] at h2; exact (fail_spec h2).elim
              · rw [hst] at h2
                dsimp only at h2
                obtain ⟨e, he, r1, r2, r3⟩ := g3.get hes
                have he' : E[i]? = some e := by simpa using he
                have hke := keyStays_run (P := P) hk r1 hst
                refine ⟨φ, _, ?_, map_wr (E' := E.modify i fun e => { e with key := u, val := y }) (clock' := clock) h1 h2 hH hφ ?_ g4⟩
                · simp [Instr.mapUpdate, under_run hu, getObj_run g2, hck, q2, he', hke, setObj_run _ g2]
                · rw [modify_set _ he]
                  exact g3.set i hk hv r3
      · exact (fail_spec h2).elim
    · intro _ _ _ _ h _ _; exact (fail_spec h).elim

def SimW (P : Program) (B : Nat) (ρ : Nat → Int) (φ : PM) (m : EM Unit) (sem : Sem Value) : Prop :=
  ∀ s un s' w, m s = some (un, s') → HRel B ρ φ s.H.get w →
    ∃ φ' u' w', sem.run P w = .ok u' w' ∧ VRel ρ φ' undefAV u' ∧ Post B ρ φ φ' s s' w w'

theorem delete_sim (he : EnvOk ρ en) {t : Nat} {x k : AV} {m u : Value} {ts : Array TypeId} {t2 : Nat} (hts : ts[0]? = some t) (hx : VRel ρ φ x m) (hk : VRel ρ φ k u) :
    SimV P B ρ φ ((aDelete P en t x k).bind fun _ => EM.pure undefAV) (Builtin.delete_ ts t2 #[m, u]) := by
  suffices core : SimW P B ρ φ (aDelete P en t x k) (Builtin.delete_ ts t2 #[m, u]) by
    intro s un s' w hm hH hf
    obtain ⟨uu, s2, hm, hp⟩ := bind_spec hm
    obtain ⟨rfl, rfl⟩ := pure_spec hp
    exact core s _ _ w hm hH
  unfold aDelete
  split
  · intro _ _ _ _ h _; exact (fail_spec h).elim
  · rename_i kt et hmt
    have hu := mapT_spec hmt
    split
    · rename_i l hko
      obtain ⟨hck, hd⟩ := keyOk_run hk hko
      intro s un s' w hm hH
      obtain ⟨o, s1, h1, h2⟩ := bind_spec hm
      obtain ⟨hs1, hn1, b, N, rfl, hφ, hmap⟩ := map_at hx h1 hH
      split at h2
      · rename_i es ck
        obtain ⟨E, clock, g2, g3, g4⟩ := hmap es ck rfl
        rcases hfd : aFind P en kt k es 0 with _ | _ | ⟨i, v'⟩ <;> rw [hfd] at h2 <;> (try dsimp only at h2)
        · exact (fail_spec h2).elim
        · obtain ⟨q, q1, q2⟩ := findKey_run he hd hk g3 hfd
          cases q with
          | some p => simp [FRel] at q1
          | none =>
            refine ⟨φ, undef, _, ?_, undef_rel, map_wr (E' := E) (clock' := clock) h1 h2 hH hφ g3 g4⟩
            simp [Builtin.delete_, hts, under_run hu, getObj_run g2, hck, q2, setObj_run _ g2, undef]
        · obtain ⟨q, q1, q2⟩ := findKey_run he hd hk g3 hfd
          cases q with
          | none => simp [FRel] at q1
          | some p =>
            obtain ⟨j, uv⟩ := p
            obtain ⟨rfl, -⟩ := q1
            refine ⟨φ, undef, _, ?_, undef_rel, map_wr (E' := E.eraseIdxIfInBounds i) (clock' := clock) h1 h2 hH hφ ?_ g4⟩
            · simp [Builtin.delete_, hts, under_run hu, getObj_run g2, hck, q2, setObj_run _ g2, undef]
            · have : (E.eraseIdxIfInBounds i).toList = E.toList.eraseIdx i := by
                unfold Array.eraseIdxIfInBounds
                split
                · simp
                · rename_i hge
                  rw [List.eraseIdx_of_length_le (by simpa using hge)]
              rw [this]
              exact g3.erase i
      · exact (fail_spec h2).elim
    · intro _ _ _ _ h _; exact (fail_spec h).elim

theorem mapEntry_sim (he : EnvOk ρ en) {t : Nat} {x k : AV} {m u : Value} (hx : VRel ρ φ x m) (hk : VRel ρ φ k u) : SimV P B ρ φ (aMapEntry P en t x k) (Instr.mapEntry t m u) := by
  unfold aMapEntry
  split
  · exact SimV.fail
  · rename_i kt et hmt
    have hu := mapT_spec hmt
    split
    · rename_i l hko
      obtain ⟨hck, hd⟩ := keyOk_run hk hko
      intro s un s' w hm hH hf
      obtain ⟨o, s1, h1, h2⟩ := bind_spec hm
      obtain ⟨hs1, hn1, b, N, rfl, hφ, hmap⟩ := map_at hx h1 hH
      split at h2
      · rename_i es ck
        obtain ⟨E, clock, g2, g3, g4⟩ := hmap es ck rfl
        rcases hfd : aFind P en kt k es 0 with _ | _ | ⟨i, v'⟩ <;> rw [hfd] at h2 <;> (try dsimp only at h2)
        · exact (fail_spec h2).elim
        · obtain ⟨q, q1, q2⟩ := findKey_run he hd hk g3 hfd
          cases q with
          | some p => simp [FRel] at q1
          | none =>
            rcases hz : zeroAV P et with _ | z <;> rw [hz] at h2 <;> (try dsimp only at h2)
            · exact (fail_spec h2).elim
            cases ck with
            | none => exact (fail_spec h2).elim
            | some c =>
              dsimp only at h2
              obtain ⟨zu, hzr, hzv⟩ := zero_run hz
              obtain ⟨uu, s2, h3, h4⟩ := bind_spec h2
              obtain ⟨rfl, rfl⟩ := pure_spec h4
              have hcl := g4 c rfl
              subst hcl
              refine ⟨φ, .tuple #[zu, goInt clock], _, ?_, .tuple _ _ (.cons _ _ _ _ (hzv _ _) (.cons _ _ _ _ (.int _ _ _ rfl) .nil)),
                map_wr (E' := E.push { key := u, val := zu, born := clock }) (clock' := clock + 1) h1 h3 hH hφ ?_ ?_⟩
              · simp [Instr.mapEntry, under_run hu, getObj_run g2, hck, q2, setObj_run _ g2, hzr]
              · simpa using g3.append (.cons k z (some clock) _ _ _ hk (hzv _ _) g4 .nil)
              · intro n hn; simpa using hn
        · obtain ⟨q, q1, q2⟩ := findKey_run he hd hk g3 hfd
          cases q with
          | none => simp [FRel] at q1
          | some p =>
            obtain ⟨j, uv⟩ := p
            obtain ⟨rfl, hv⟩ := q1
            rcases hes : es[i]? with _ | ⟨k', v2, _ | bn⟩ <;> rw [hes] at h2 <;> (try dsimp only at h2)
            · exact (fail_spec h2).elim
            · exact (fail_spec h2).elim
            · cases hst : keyStays k k'
              · rw [hst] at h2; exact (fail_spec h2).elim
              · rw [hst] at h2
                dsimp only at h2
                obtain ⟨uu, s2, h3, h4⟩ := bind_spec h2
                obtain ⟨rfl, rfl⟩ := pure_spec h4
                obtain ⟨e, he, r1, r2, r3⟩ := g3.get hes
                have he' : E[i]? = some e := by simpa using he
                have hke := keyStays_run (P := P) hk r1 hst
                have hbn := r3 bn rfl
                refine ⟨φ, .tuple #[uv, goInt e.born], _, ?_, .tuple _ _ (.cons _ _ _ _ hv (.cons _ _ _ _ (.int _ _ _ (by simp [SI.val, hbn])) .nil)),
                  map_wr (E' := E.modify i fun e => { e with key := u }) (clock' := clock) h1 h3 hH hφ ?_ g4⟩
                · simp [Instr.mapEntry, under_run hu, getObj_run g2, hck, q2, he', hke, setObj_run _ g2]
                · rw [modify_set _ he]
                  exact g3.set i hk r2 r3
      · exact (fail_spec h2).elim
    · exact SimV.fail

theorem bornAt_spec {n : Nat} : ∀ {xs : List (AV × AV × Option Nat)} {es : List MapEntry} (_ : MRel ρ φ xs es) (i j : Nat) (k : AV), bornAt n xs i = some (j, k) →
    ∃ m, j = i + m ∧ es.findIdx? (fun e => (e.born : Int) == (n : Int)) = some m ∧ ∃ e, es[m]? = some e ∧ VRel ρ φ k e.key ∧ e.born = n := by
  intro xs es hM
  induction hM with
  | nil => intro i j k h; simp [bornAt] at h
  | cons k' v' b' e' xs es g1 g2 g3 hr ih =>
    intro i j k h
    cases b' with
    | none => simp [bornAt] at h
    | some b =>
      have hb := g3 b rfl
      unfold bornAt at h
      split at h
      · rename_i he
        have he := Nat.eq_of_beq_eq_true he
        simp only [Option.some.injEq, Prod.mk.injEq] at h
        obtain ⟨rfl, rfl⟩ := h
        refine ⟨0, rfl, ?_, e', rfl, g1, by omega⟩
        rw [List.findIdx?_cons, if_pos (by simp; omega)]
      · rename_i he
        obtain ⟨m, rfl, h2, e, h3, h4, h5⟩ := ih (i + 1) j k h
        refine ⟨m + 1, by omega, ?_, e, by simpa using h3, h4, h5⟩
        have hne : b ≠ n := by rintro rfl; simp at he
        rw [List.findIdx?_cons, if_neg (by simp; omega), h2]
        rfl

theorem entryStore_sim {t : Nat} {x st v : AV} {m z y : Value} (hx : VRel ρ φ x m) (hz : VRel ρ φ st z) (hv : VRel ρ φ v y) : SimU P B ρ φ (aEntryStore x st v) (Instr.entryStore t m z y) := by
  unfold aEntryStore
  split
  · rename_i l n hn
    obtain ⟨kk, rfl⟩ := natOf_rel hz hn
    intro s un s' w hm hH hf
    obtain ⟨o, s1, h1, h2⟩ := bind_spec hm
    obtain ⟨hs1, hn1, b, N, rfl, hφ, hmap⟩ := map_at hx h1 hH
    split at h2
    · rename_i es ck
      obtain ⟨E, clock, g2, g3, g4⟩ := hmap es ck rfl
      rcases hb : bornAt n es 0 with _ | ⟨i, k⟩ <;> rw [hb] at h2 <;> (try dsimp only at h2)
      · exact (fail_spec h2).elim
      · obtain ⟨m, e1, e2, e, he, r1, r2⟩ := bornAt_spec g3 0 i k hb
        obtain rfl : i = m := by omega
        have e3 : E.findIdx? (fun e => (e.born : Int) == (n : Int)) = some i := by
          rw [← List.findIdx?_toArray] at e2
          simpa using e2
        refine ⟨φ, _, ?_, map_wr (E' := E.modify i fun e => { e with val := y }) (clock' := clock) h1 h2 hH hφ ?_ g4⟩
        · simp [Instr.entryStore, getObj_run g2, asInt, asIntOf, e3, setObj_run _ g2]
        · rw [modify_set _ he]
          exact g3.set i r1 hv (fun q hq => by simp only [Option.some.injEq] at hq; simp only; omega)
    · exact (fail_spec h2).elim
  · intro _ _ _ _ h _ _; exact (fail_spec h).elim
end
end Go.Ab
