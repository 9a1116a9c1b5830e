/-
  A REGION WHOSE ORDER IS DRAWN, last part: the invariant at every set of operations done.
-/
import Derived.Test.YtldjfokgfapkiaaGreatDoorAbRegion3
namespace Go.Ab

section
variable {P : Program} {B : Nat} {ρ : Nat → Int} {en : Env} {G : Nat} {hook : Hook} {call : FuncId → List AV → EM AV}

/-- What holds when the operations of S are done. -/
structure Inv (B : Nat) (ρ : Nat → Int) (ops : Array Oper) (AS : Nat → AAct) (SS : Nat → St) (VS : Nat → AV) (ts : List Told) (φ : PM) (w : World) (S : Nat → Bool) (φ1 : PM) (a1 : Act) (w1 : World) : Prop where
  le : φ.le φ1
  new : ∀ l, φ l = none → φ1 l ≠ none → ∃ i, i < ops.size ∧ S i = true ∧ (SS i).n ≤ l ∧ l < (SS (i + 1)).n
  rel : HRel B ρ φ1 (mixH SS (logOf ts) S ops.size) w1
  fr : Fr (Own φ (SS 0).H.get) w w1
  own : ∀ k, Own φ1 (mixH SS (logOf ts) S ops.size) k → Own φ (SS 0).H.get k ∨ w.heap.size ≤ k
  has : ∀ k, Has φ1 (mixH SS (logOf ts) S ops.size) k → Has φ (SS 0).H.get k ∨ w.heap.size ≤ k
  defers : a1.defers = []
  size : a1.tmps.size = (AS 0).N
  vals : ∀ t, VRel ρ φ1 (mixA VS (dstOf ops) (AS 0) S ops.size t) (a1.tmps.getD t undef)

/-- One more operation: what it looked at and made is T. -/
theorem inv_step0 {ops : Array Oper} {AS : Nat → AAct} {SS : Nat → St} {VS : Nat → AV} {ts : List Told}
    {φ : PM} {w : World} {S : Nat → Bool} {φ1 : PM} {a1 : Act} {w1 : World} (hI : Inv B ρ ops AS SS VS ts φ w S φ1 a1 w1) {j : Nat} {oj : Oper} (hjlt : j < ops.size)
    {T : Nat → Prop} {s1 s2 : St} {φ' : PM} {u : Value} {w' : World} (hv : VRel ρ φ' (VS j) u) (hp : Post B ρ φ1 φ' s1 s2 w1 w')
    (inside : ∀ l, T l → mixH SS (logOf ts) (upd S j) ops.size l = s2.H.get l) (outside : ∀ l, ¬ T l → mixH SS (logOf ts) (upd S j) ops.size l = mixH SS (logOf ts) S ops.size l)
    (cutS : ∀ l o, s1.H.get l = some o → mixH SS (logOf ts) S ops.size l = some o ∧ T l)
    (hnew : ∀ l, φ1 l = none → φ' l ≠ none → (SS j).n ≤ l ∧ l < (SS (j + 1)).n)
    (hmixA : ∀ t, mixA VS (dstOf ops) (AS 0) (upd S j) ops.size t = if oj.dst = some t then VS j else mixA VS (dstOf ops) (AS 0) S ops.size t)
    (hdst : ∀ d, oj.dst = some d → d < (AS 0).N) : Inv B ρ ops AS SS VS ts φ w (upd S j) φ' (a1.put oj.dst u) w' := by
  -- the block of what lies outside is not one's own here
  have notown : ∀ l o b N, ¬ T l → mixH SS (logOf ts) S ops.size l = some o → o.alive = true → φ1 l = some (b, N) → ¬ Has φ1 s1.H.get b := by
    rintro l o b N hl ho ha hφ ⟨l2, o2, N2, h1, h2, h4⟩
    obtain ⟨e1, hT⟩ := cutS l2 o2 h1
    have := hI.rel.inj l l2 o o2 b N N2 ho e1 ha h2 hφ h4
    subst this
    exact hl hT
  have ownsub : ∀ k, Own φ1 s1.H.get k → Own φ1 (mixH SS (logOf ts) S ops.size) k := by
    rintro k ⟨l, o, N, h1, h2, h3, h4⟩
    exact ⟨l, o, N, (cutS l o h1).1, h2, h3, h4⟩
  have outφ : ∀ l o, mixH SS (logOf ts) S ops.size l = some o → o.alive = true → ∀ x, φ' l = some x → φ1 l = some x := by
    intro l o ho ha x hx
    obtain ⟨b, N, y, g1, _⟩ := hI.rel.at_ l o ho ha
    have := hp.le l _ g1
    rw [hx] at this
    rw [g1, this]
  refine ⟨PM.le_trans hI.le hp.le, ?_, ⟨?_, ?_, ?_⟩, ?_, ?_, ?_, ?_, ?_, ?_⟩
  · intro l h1 h2
    by_cases hm : φ1 l = none
    · have := hnew l hm h2
      exact ⟨j, hjlt, by simp [upd], this.1, this.2⟩
    · obtain ⟨i, i1, i2, i3, i4⟩ := hI.new l h1 hm
      exact ⟨i, i1, by simp only [upd]; split <;> first | rfl | exact i2, i3, i4⟩
  · exact hp.rel.base
  · intro l o ho ha
    by_cases hl : T l
    · rw [inside l hl] at ho
      exact hp.rel.at_ l o ho ha
    · rw [outside l hl] at ho
      obtain ⟨b, N, x, g1, g2, g3, g4⟩ := hI.rel.at_ l o ho ha
      refine ⟨b, N, x, hp.le _ _ g1, ?_, g3.mono hp.le, g4⟩
      rw [hp.fr.block b (lt_of_heap g2) (fun ⟨l2, o2, N2, h1, h2, h3, h4⟩ => notown l o b N hl ho ha g1 ⟨l2, o2, N2, h1, h2, h4⟩), g2]
  · intro l l' o o' b N N' ho ho' ha ha' hφ hφ'
    have cross : ∀ l l' o o' N N', mixH SS (logOf ts) (upd S j) ops.size l = some o → mixH SS (logOf ts) (upd S j) ops.size l' = some o' → o.alive = true → o'.alive = true →
        φ' l = some (b, N) → φ' l' = some (b, N') → T l → ¬ T l' → False := by
      intro l l' o o' N N' ho ho' ha ha' hφ hφ' hl hl'
      rw [inside l hl] at ho
      rw [outside l' hl'] at ho'
      have hφ1 := outφ l' o' ho' ha' _ hφ'
      obtain ⟨b2, N2, x, g1, g2, _, _⟩ := hI.rel.at_ l' o' ho' ha'
      rw [hφ1] at g1
      simp only [Option.some.injEq, Prod.mk.injEq] at g1
      obtain ⟨rfl, rfl⟩ := g1
      rcases hp.has b ⟨l, o, N, ho, ha, hφ⟩ with h | h
      · exact notown l' o' b N' hl' ho' ha' hφ1 h
      · have := lt_of_heap g2; omega
    by_cases hl : T l
    · by_cases hl' : T l'
      · rw [inside l hl] at ho
        rw [inside l' hl'] at ho'
        exact hp.rel.inj l l' o o' b N N' ho ho' ha ha' hφ hφ'
      · exact (cross l l' o o' N N' ho ho' ha ha' hφ hφ' hl hl').elim
    · by_cases hl' : T l'
      · exact (cross l' l o' o N' N ho' ho ha' ha hφ' hφ hl' hl).elim
      · rw [outside l hl] at ho
        rw [outside l' hl'] at ho'
        exact hI.rel.inj l l' o o' b N N' ho ho' ha ha' (outφ l o ho ha _ hφ) (outφ l' o' ho' ha' _ hφ')
  · refine ⟨hp.fr.os.trans hI.fr.os, hp.fr.tape.trans hI.fr.tape, hp.fr.output.trans hI.fr.output, Nat.le_trans hI.fr.size hp.fr.size, fun k hk ho => ?_⟩
    rw [hp.fr.block k (Nat.lt_of_lt_of_le hk hI.fr.size), hI.fr.block k hk ho]
    intro ho'
    rcases hI.own k (ownsub k ho') with h1 | h1
    · exact ho h1
    · omega
  · rintro k ⟨l, o, N, h1, h2, h3, h4⟩
    by_cases hl : T l
    · rw [inside l hl] at h1
      rcases hp.own k ⟨l, o, N, h1, h2, h3, h4⟩ with h | h
      · exact hI.own k (ownsub k h)
      · exact .inr (Nat.le_trans hI.fr.size h)
    · rw [outside l hl] at h1
      exact hI.own k ⟨l, o, N, h1, h2, h3, outφ l o h1 h2 _ h4⟩
  · rintro k ⟨l, o, N, h1, h2, h4⟩
    by_cases hl : T l
    · rw [inside l hl] at h1
      rcases hp.has k ⟨l, o, N, h1, h2, h4⟩ with ⟨l2, o2, N2, g1, g2, g3⟩ | h
      · exact hI.has k ⟨l2, o2, N2, (cutS l2 o2 g1).1, g2, g3⟩
      · exact .inr (Nat.le_trans hI.fr.size h)
    · rw [outside l hl] at h1
      exact hI.has k ⟨l, o, N, h1, h2, outφ l o h1 h2 _ h4⟩
  · cases hd : oj.dst <;> simp [Act.put, hI.defers]
  · cases hd : oj.dst <;> simp [Act.put, hI.size]
  · intro t'
    rw [hmixA]
    by_cases hd : oj.dst = some t'
    · rw [if_pos hd, hd]
      have hlt : t' < a1.tmps.size := by rw [hI.size]; exact hdst t' hd
      have : (a1.put (some t') u).tmps.getD t' undef = u := by simp [Act.put, Array.getD, hlt]
      rw [this]; exact hv
    · rw [if_neg hd]
      have : (a1.put oj.dst u).tmps.getD t' undef = a1.tmps.getD t' undef := by
        cases hd' : oj.dst with
        | none => rfl
        | some d =>
          have hne : d ≠ t' := by rintro rfl; exact hd hd'
          simp only [Act.put, Array.getD_eq_getD_getElem?, Array.getElem?_setIfInBounds, if_neg hne]
      rw [this]; exact (hI.vals t').mono hp.le

/-- One more operation. -/
theorem inv_step {ops : Array Oper} {AS : Nat → AAct} {SS : Nat → St} {VS : Nat → AV} {WS : Nat → Bool} {ts : List Told} (hr : Run P G en hook call ops AS SS VS WS ts)
    {φ : PM} {w : World} {S : Nat → Bool} {φ1 : PM} {a1 : Act} {w1 : World} (hI : Inv B ρ ops AS SS VS ts φ w S φ1 a1 w1) {j : Nat} {oj : Oper} (hj : ops[j]? = some oj) (hSj : S j = false)
    (hap : ∀ i, i < ops.size → ((i < j ∧ S i = false) ∨ (j < i ∧ S i = true)) → Apart ops SS ts oj i j) {t : Told} (ht : ts[j]? = some t) (_hf : Fresh φ (SS 0).n (SS ops.size).n)
    {H2 : Tr AObj} {lg : List (Nat × Bool)} {φ' : PM} {u : Value} {w' : World} (hv : VRel ρ φ' (VS j) u)
    (hp : Post B ρ φ1 φ' ⟨cut (SS j).H (logOf ts j), (SS j).n, (SS j).n, []⟩ ⟨H2, (SS (j + 1)).n, (SS j).n, lg⟩ w1 w')
    (hin : ∀ l, ((SS j).n ≤ l ∨ ∃ b, (l, b) ∈ logOf ts j) → H2.get l = (SS (j + 1)).H.get l) (_hput : (AS j).N = (AS 0).N)
    (hdst : ∀ d, oj.dst = some d → d < (AS 0).N) : Inv B ρ ops AS SS VS ts φ w (upd S j) φ' (a1.put oj.dst u) w' := by
  have hjlt : j < ops.size := (Array.getElem?_eq_some_iff.1 hj).1
  have htn := hr.turn j oj t hj ht
  have lj : logOf ts j = t.2.1 := by simp [logOf, ht]
  -- what lies inside, and what outside
  have inside : ∀ l, (Touch SS (logOf ts) j l ∨ ∃ b, (l, b) ∈ logOf ts j) → mixH SS (logOf ts) (upd S j) ops.size l = H2.get l := by
    intro l hl
    by_cases hT : Touch SS (logOf ts) j l
    · rw [mixH_upd_touch hr hj hap hT]
      rcases hT with h | h
      · exact (hin l (.inr ⟨true, h⟩)).symm
      · exact (hin l (.inl h.1)).symm
    · obtain ⟨b, hb⟩ := hl.resolve_left hT
      rw [mixH_upd_not hT, looked hr hj hSj hap hb, hin l (.inr ⟨b, hb⟩)]
      exact (htn.keep l (fun h => hT (.inl (by rw [lj]; exact h))) (fun h => hT (.inr h))).symm
  have cutS : ∀ l o, (cut (SS j).H (logOf ts j)).get l = some o → mixH SS (logOf ts) S ops.size l = some o ∧ ∃ b, (l, b) ∈ logOf ts j := by
    intro l o h
    obtain ⟨h1, b, hb⟩ := cut_get _ _ _ h
    exact ⟨by rw [looked hr hj hSj hap hb]; exact h1, b, hb⟩
  have outside : ∀ l, ¬ (Touch SS (logOf ts) j l ∨ ∃ b, (l, b) ∈ logOf ts j) → mixH SS (logOf ts) (upd S j) ops.size l = mixH SS (logOf ts) S ops.size l :=
    fun l hl => mixH_upd_not fun h => hl (.inl h)
  refine inv_step0 (T := fun l => Touch SS (logOf ts) j l ∨ ∃ b, (l, b) ∈ logOf ts j) hI hjlt hv hp inside outside ?_ (fun l h1 h2 => hp.new l h1 h2) (fun t' => mixA_upd hj (fun i hi hlt hS => (hap i hi (.inr ⟨hlt, hS⟩)).dsts) t') hdst
  intro l o h
  obtain ⟨h1, b, hb⟩ := cutS l o h
  exact ⟨h1, .inr ⟨b, hb⟩⟩
end
end Go.Ab
