/-
  WHAT A STEP OF THE RECKONING COMES TO IN THE WORLD: the same memory, another object in a place, a new one, a row that has grown.
-/
import Derived.Test.YtldjfokgfapkiaaGreatDoorAbEval
namespace Go.Ab

section
variable {B : Nat} {ρ : Nat → Int} {φ : PM} {s s' : St} {w w' : World}

/-- Blocks that nobody owns may come, and draws; nothing else. -/
abbrev Still (w w' : World) : Prop := Fr (fun _ => False) w w'

theorem Still.heap (h : Still w w') {k : Nat} {x : Obj} (hx : w.heap[k]? = some x) : w'.heap[k]? = some x := by
  have hk : k < w.heap.size := by
    rcases Nat.lt_or_ge k w.heap.size with h | h
    · exact h
    · simp [Array.getElem?_eq_none h] at hx
  rw [h.block k hk (fun h => h), hx]

theorem HRel.still (h : HRel B ρ φ s.H.get w) (hw : Still w w') : HRel B ρ φ s.H.get w' where
  base := Nat.le_trans h.base hw.size
  at_ := fun l o ho ha => by
    obtain ⟨b, N, x, h1, h2, h3, h4⟩ := h.at_ l o ho ha
    exact ⟨b, N, x, h1, hw.heap h2, h3, h4⟩
  inj := h.inj

theorem Post.same (h : HRel B ρ φ s.H.get w) (hH : s'.H = s.H) (hn : s'.n = s.n) (hw : Still w w') : Post B ρ φ φ s s' w w' where
  le := PM.le_refl φ
  new := fun l h1 h2 => absurd h1 h2
  n_le := by omega
  rel := by rw [hH]; exact h.still hw
  fr := ⟨hw.os, hw.tape, hw.output, hw.size, fun k hk _ => hw.block k hk (fun h => h)⟩
  own := fun k hk => .inl (by rw [hH] at hk; exact hk)
  has := fun k hk => .inl (by rw [hH] at hk; exact hk)

theorem lt_of_heap {k : Nat} {x : Obj} (hx : w.heap[k]? = some x) : k < w.heap.size := by
  rcases Nat.lt_or_ge k w.heap.size with h | h
  · exact h
  · simp [Array.getElem?_eq_none h] at hx

/-- Another object in a place. -/
theorem Post.write (h : HRel B ρ φ s.H.get w) {l b N : Nat} {o o' : AObj} {x : Obj} (hl : s.H.get l = some o') (ha : o'.alive = true) (hro : o'.ro = false)
    (hφ : φ l = some (b, N)) (hH : ∀ m, s'.H.get m = if m = l then some o else s.H.get m) (hn : s'.n = s.n)
    (hw : w' = { w with heap := w.heap.setIfInBounds b x }) (ho : o.alive = true → ORel ρ φ o N x) : Post B ρ φ φ s s' w w' := by
  obtain ⟨b0, N0, x0, h1, h2, h3, h4⟩ := h.at_ l o' hl ha
  rw [hφ] at h1
  simp only [Option.some.injEq, Prod.mk.injEq] at h1
  obtain ⟨rfl, rfl⟩ := h1
  have hb := lt_of_heap h2
  have hown : Own φ s.H.get b := ⟨l, o', N, hl, ha, hro, hφ⟩
  have hheap : ∀ k, k ≠ b → w'.heap[k]? = w.heap[k]? := by
    intro k hk; subst hw; simp only [Array.getElem?_setIfInBounds]; rw [if_neg (by omega)]
  refine ⟨PM.le_refl φ, fun l h1 h2 => absurd h1 h2, by omega, ⟨by subst hw; simpa using h.base, fun m om hm hma => ?_, fun m m' om om' bm Nm Nm' hm hm' hma hma' hφm hφm' => ?_⟩, ⟨by subst hw; rfl, by subst hw; rfl, by subst hw; rfl, by subst hw; simp, fun k hk hnk => ?_⟩, fun k hk => ?_, fun k hk => ?_⟩
  · rw [hH] at hm
    by_cases e : m = l
    · subst e
      rw [if_pos rfl] at hm
      simp only [Option.some.injEq] at hm
      subst hm
      exact ⟨b, N, x, hφ, by subst hw; simp [hb], ho hma, fun _ => h4 hro⟩
    · rw [if_neg e] at hm
      obtain ⟨b2, N2, x2, g1, g2, g3, g4⟩ := h.at_ m om hm hma
      refine ⟨b2, N2, x2, g1, ?_, g3, g4⟩
      rw [hheap b2, g2]
      rintro rfl
      exact e (h.inj m l om o' b2 N2 N hm hl hma ha g1 hφ)
  · have aux : ∀ m om, s'.H.get m = some om → om.alive = true → ∃ o2, s.H.get m = some o2 ∧ o2.alive = true := by
      intro m om hm hma
      rw [hH] at hm
      by_cases e : m = l
      · subst e; exact ⟨o', hl, ha⟩
      · rw [if_neg e] at hm; exact ⟨om, hm, hma⟩
    obtain ⟨a1, e1, e2⟩ := aux m om hm hma
    obtain ⟨a2, e3, e4⟩ := aux m' om' hm' hma'
    exact h.inj m m' a1 a2 bm Nm Nm' e1 e3 e2 e4 hφm hφm'
  · apply hheap
    rintro rfl
    exact hnk hown
  · obtain ⟨m, om, Nm, hm, hma, hmr, hφm⟩ := hk
    refine .inl ?_
    rw [hH] at hm
    by_cases e : m = l
    · subst e; exact ⟨m, o', Nm, hl, ha, hro, hφm⟩
    · rw [if_neg e] at hm; exact ⟨m, om, Nm, hm, hma, hmr, hφm⟩
  · obtain ⟨m, om, Nm, hm, hma, hφm⟩ := hk
    refine .inl ?_
    rw [hH] at hm
    by_cases e : m = l
    · subst e; exact ⟨m, o', Nm, hl, ha, hφm⟩
    · rw [if_neg e] at hm; exact ⟨m, om, Nm, hm, hma, hφm⟩

/-- The places with one more. -/
def PM.put (φ : PM) (l : Nat) (x : Nat × Nat) : PM := fun m => if m = l then some x else φ m
theorem PM.put_le {l : Nat} {x : Nat × Nat} (h : φ l = none) : φ.le (φ.put l x) := by
  intro m y hy
  unfold PM.put
  by_cases e : m = l
  · subst e; rw [h] at hy; simp at hy
  · rw [if_neg e, hy]
theorem PM.put_self (l : Nat) (x : Nat × Nat) : φ.put l x l = some x := by simp [PM.put]

/-- A new object. -/
theorem Post.made (h : HRel B ρ φ s.H.get w) {N d : Nat} {o : AObj} {x : Obj} (hf : φ s.n = none)
    (hH : ∀ m, s'.H.get m = if m = s.n then some o else s.H.get m) (hn : s'.n = s.n + 1)
    (hw : w' = { w with heap := w.heap.push x, drawn := d }) (ho : o.alive = true → ORel ρ (φ.put s.n (w.heap.size, N)) o N x) :
    Post B ρ φ (φ.put s.n (w.heap.size, N)) s s' w w' := by
  have hle : φ.le (φ.put s.n (w.heap.size, N)) := PM.put_le hf
  have hheap : ∀ k, k < w.heap.size → w'.heap[k]? = w.heap[k]? := by
    intro k hk; subst hw; simp only [Array.getElem?_push]; rw [if_neg (by omega)]
  have back : ∀ m om, s'.H.get m = some om → m ≠ s.n → s.H.get m = some om := by
    intro m om hm hne; rw [hH, if_neg hne] at hm; exact hm
  refine ⟨hle, fun l h1 h2 => ?_, by omega, ⟨by subst hw; have := h.base; simp; omega, fun m om hm hma => ?_, fun m m' om om' bm Nm Nm' hm hm' hma hma' hφm hφm' => ?_⟩, ⟨by subst hw; rfl, by subst hw; rfl, by subst hw; rfl, by subst hw; simp, fun k hk hnk => hheap k hk⟩, fun k hk => ?_, fun k hk => ?_⟩
  · unfold PM.put at h2
    by_cases e : l = s.n
    · omega
    · rw [if_neg e] at h2; exact absurd h1 h2
  · by_cases e : m = s.n
    · subst e
      rw [hH, if_pos rfl] at hm
      simp only [Option.some.injEq] at hm
      subst hm
      exact ⟨_, N, x, PM.put_self _ _, by subst hw; simp, ho hma, fun _ => h.base⟩
    · obtain ⟨b2, N2, x2, g1, g2, g3, g4⟩ := h.at_ m om (back m om hm e) hma
      exact ⟨b2, N2, x2, hle _ _ g1, by rw [hheap b2 (lt_of_heap g2), g2], g3.mono hle, g4⟩
  · have aux : ∀ m om bm Nm, s'.H.get m = some om → om.alive = true → m ≠ s.n → φ.put s.n (w.heap.size, N) m = some (bm, Nm) → φ m = some (bm, Nm) ∧ bm < w.heap.size := by
      intro m om bm Nm hm hma hne hp
      simp only [PM.put, if_neg hne] at hp
      obtain ⟨b2, N2, x2, g1, g2, _, _⟩ := h.at_ m om (back m om hm hne) hma
      rw [hp] at g1
      simp only [Option.some.injEq, Prod.mk.injEq] at g1
      exact ⟨hp, g1.1 ▸ lt_of_heap g2⟩
    by_cases e : m = s.n
    · by_cases e' : m' = s.n
      · rw [e, e']
      · subst e
        rw [PM.put_self] at hφm
        simp only [Option.some.injEq, Prod.mk.injEq] at hφm
        have := (aux m' om' bm Nm' hm' hma' e' hφm').2
        omega
    · by_cases e' : m' = s.n
      · subst e'
        rw [PM.put_self] at hφm'
        simp only [Option.some.injEq, Prod.mk.injEq] at hφm'
        have := (aux m om bm Nm hm hma e hφm).2
        omega
      · exact h.inj m m' om om' bm Nm Nm' (back _ _ hm e) (back _ _ hm' e') hma hma' (aux m om bm Nm hm hma e hφm).1 (aux m' om' bm Nm' hm' hma' e' hφm').1
  · obtain ⟨m, om, Nm, hm, hma, hmr, hφm⟩ := hk
    by_cases e : m = s.n
    · subst e
      rw [PM.put_self] at hφm
      simp only [Option.some.injEq, Prod.mk.injEq] at hφm
      exact .inr (by omega)
    · simp only [PM.put, if_neg e] at hφm
      exact .inl ⟨m, om, Nm, back _ _ hm e, hma, hmr, hφm⟩
  · obtain ⟨m, om, Nm, hm, hma, hφm⟩ := hk
    by_cases e : m = s.n
    · subst e
      rw [PM.put_self] at hφm
      simp only [Option.some.injEq, Prod.mk.injEq] at hφm
      exact .inr (by omega)
    · simp only [PM.put, if_neg e] at hφm
      exact .inl ⟨m, om, Nm, back _ _ hm e, hma, hφm⟩

/-- A row that has grown where it lay: the elder place is given up, a new one lies over the same block. -/
theorem Post.grow (h : HRel B ρ φ s.H.get w) {l b N : Nat} {o o' : AObj} {x : Obj} (hl : s.H.get l = some o') (ha : o'.alive = true) (hro : o'.ro = false)
    (hφ : φ l = some (b, N)) (hf : φ s.n = none)
    (hH : ∀ m, s'.H.get m = if m = s.n then some o else if m = l then some .dead else s.H.get m) (hn : s'.n = s.n + 1)
    (hw : w' = { w with heap := w.heap.setIfInBounds b x }) (ho : o.alive = true → ORel ρ (φ.put s.n (b, N)) o N x) :
    Post B ρ φ (φ.put s.n (b, N)) s s' w w' := by
  obtain ⟨b0, N0, x0, h1, h2, h3, h4⟩ := h.at_ l o' hl ha
  rw [hφ] at h1
  simp only [Option.some.injEq, Prod.mk.injEq] at h1
  obtain ⟨rfl, rfl⟩ := h1
  have hb := lt_of_heap h2
  have hown : Own φ s.H.get b := ⟨l, o', N, hl, ha, hro, hφ⟩
  have hle : φ.le (φ.put s.n (b, N)) := PM.put_le hf
  have hheap : ∀ k, k ≠ b → w'.heap[k]? = w.heap[k]? := by
    intro k hk; subst hw; simp only [Array.getElem?_setIfInBounds]; rw [if_neg (by omega)]
  have back : ∀ m om, s'.H.get m = some om → om.alive = true → m ≠ s.n → s.H.get m = some om ∧ m ≠ l := by
    intro m om hm hma hne
    rw [hH, if_neg hne] at hm
    by_cases e : m = l
    · rw [if_pos e] at hm; simp only [Option.some.injEq] at hm; subst hm; simp [AObj.alive] at hma
    · rw [if_neg e] at hm; exact ⟨hm, e⟩
  refine ⟨hle, fun k h1 h2 => ?_, by omega, ⟨by subst hw; simpa using h.base, fun m om hm hma => ?_, fun m m' om om' bm Nm Nm' hm hm' hma hma' hφm hφm' => ?_⟩, ⟨by subst hw; rfl, by subst hw; rfl, by subst hw; rfl, by subst hw; simp, fun k hk hnk => ?_⟩, fun k hk => ?_, fun k hk => ?_⟩
  · unfold PM.put at h2
    by_cases e : k = s.n
    · omega
    · rw [if_neg e] at h2; exact absurd h1 h2
  · by_cases e : m = s.n
    · subst e
      rw [hH, if_pos rfl] at hm
      simp only [Option.some.injEq] at hm
      subst hm
      exact ⟨b, N, x, PM.put_self _ _, by subst hw; simp [hb], ho hma, fun _ => h4 hro⟩
    · obtain ⟨hm2, hne⟩ := back m om hm hma e
      obtain ⟨b2, N2, x2, g1, g2, g3, g4⟩ := h.at_ m om hm2 hma
      refine ⟨b2, N2, x2, hle _ _ g1, ?_, g3.mono hle, g4⟩
      rw [hheap b2, g2]
      rintro rfl
      exact hne (h.inj m l om o' b2 N2 N hm2 hl hma ha g1 hφ)
  · have aux : ∀ m om bm Nm, s'.H.get m = some om → om.alive = true → m ≠ s.n → φ.put s.n (b, N) m = some (bm, Nm) → φ m = some (bm, Nm) ∧ bm ≠ b := by
      intro m om bm Nm hm hma hne hp
      simp only [PM.put, if_neg hne] at hp
      obtain ⟨hm2, hne2⟩ := back m om hm hma hne
      refine ⟨hp, ?_⟩
      rintro rfl
      exact hne2 (h.inj m l om o' bm Nm N hm2 hl hma ha hp hφ)
    by_cases e : m = s.n
    · by_cases e' : m' = s.n
      · rw [e, e']
      · subst e
        rw [PM.put_self] at hφm
        simp only [Option.some.injEq, Prod.mk.injEq] at hφm
        exact absurd hφm.1.symm (aux m' om' bm Nm' hm' hma' e' hφm').2
    · by_cases e' : m' = s.n
      · subst e'
        rw [PM.put_self] at hφm'
        simp only [Option.some.injEq, Prod.mk.injEq] at hφm'
        exact absurd hφm'.1.symm (aux m om bm Nm hm hma e hφm).2
      · exact h.inj m m' om om' bm Nm Nm' (back _ _ hm hma e).1 (back _ _ hm' hma' e').1 hma hma' (aux m om bm Nm hm hma e hφm).1 (aux m' om' bm Nm' hm' hma' e' hφm').1
  · apply hheap
    rintro rfl
    exact hnk hown
  · obtain ⟨m, om, Nm, hm, hma, hmr, hφm⟩ := hk
    by_cases e : m = s.n
    · subst e
      rw [PM.put_self] at hφm
      simp only [Option.some.injEq, Prod.mk.injEq] at hφm
      exact .inl (hφm.1 ▸ hown)
    · simp only [PM.put, if_neg e] at hφm
      exact .inl ⟨m, om, Nm, (back _ _ hm hma e).1, hma, hmr, hφm⟩
  · obtain ⟨m, om, Nm, hm, hma, hφm⟩ := hk
    by_cases e : m = s.n
    · subst e
      rw [PM.put_self] at hφm
      simp only [Option.some.injEq, Prod.mk.injEq] at hφm
      exact .inl (hφm.1 ▸ ⟨l, o', N, hl, ha, hφ⟩)
    · simp only [PM.put, if_neg e] at hφm
      exact .inl ⟨m, om, Nm, (back _ _ hm hma e).1, hma, hφm⟩
end

section
variable {s s' : St}
theorem rd_spec {l : Nat} {o : AObj} (h : rd l s = some (o, s')) : s.H.get l = some o ∧ o.alive = true ∧ s'.H = s.H ∧ s'.n = s.n := by
  unfold rd at h
  split at h
  · simp at h
  · rename_i o' ho
    split at h
    · simp at h
    · rename_i ha
      simp only [Option.some.injEq, Prod.mk.injEq] at h
      obtain ⟨rfl, rfl⟩ := h
      exact ⟨ho, ha, rfl, rfl⟩
theorem wr_spec {l : Nat} {o : AObj} {u : Unit} (h : wr l o s = some (u, s')) :
    ∃ o', s.H.get l = some o' ∧ o'.alive = true ∧ o'.ro = false ∧ (∀ m, s'.H.get m = if m = l then some o else s.H.get m) ∧ s'.n = s.n := by
  unfold wr at h
  split at h
  · simp at h
  · rename_i o' ho
    split at h
    · simp at h
    · rename_i ha
      rw [Tr.setK_eq] at h
      simp only [Option.some.injEq, Prod.mk.injEq] at h
      obtain ⟨-, rfl⟩ := h
      simp only [Bool.and_eq_true, Bool.not_eq_true'] at ha
      exact ⟨o', ho, ha.1, ha.2, fun m => Tr.get_set _ _ _ _, rfl⟩
theorem newO_spec {o : AObj} {l : Nat} (h : newO o s = some (l, s')) : l = s.n ∧ (∀ m, s'.H.get m = if m = s.n then some o else s.H.get m) ∧ s'.n = s.n + 1 := by
  unfold newO at h
  rw [Tr.setK_eq, fN_eq] at h
  simp only [Option.some.injEq, Prod.mk.injEq] at h
  obtain ⟨rfl, rfl⟩ := h
  exact ⟨rfl, fun m => Tr.get_set _ _ _ _, rfl⟩
theorem bind_spec {α β : Type} {m : EM α} {f : α → EM β} {b : β} (h : m.bind f s = some (b, s')) : ∃ a s1, m s = some (a, s1) ∧ f a s1 = some (b, s') := by
  unfold EM.bind at h
  split at h
  · simp at h
  · rename_i a s1 hm; exact ⟨a, s1, hm, h⟩
theorem pure_spec {α : Type} {a b : α} (h : EM.pure a s = some (b, s')) : b = a ∧ s' = s := by
  simp only [EM.pure, Option.some.injEq, Prod.mk.injEq] at h
  exact ⟨h.1.symm, h.2.symm⟩
theorem lift_spec {α : Type} {x : Option α} {b : α} (h : EM.lift x s = some (b, s')) : x = some b ∧ s' = s := by
  cases x with
  | none => simp [EM.lift] at h
  | some a => simp only [EM.lift, Option.some.injEq, Prod.mk.injEq] at h; exact ⟨by rw [h.1], h.2.symm⟩
theorem fail_spec {α : Type} {b : α} (h : (EM.fail : EM α) s = some (b, s')) : False := by simp [EM.fail] at h
theorem emO_spec {α : Type} {x : Option AV} {k : AV → EM α} {b : α} (h : emO x k s = some (b, s')) : ∃ v, x = some v ∧ k v s = some (b, s') := by
  unfold emO at h
  split at h
  · exact (fail_spec h).elim
  · exact ⟨_, rfl, h⟩
end
end Go.Ab
