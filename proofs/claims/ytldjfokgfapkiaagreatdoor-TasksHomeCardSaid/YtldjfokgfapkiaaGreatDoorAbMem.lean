/-
  MEMORY OF THE RECKONING: objects at places, what it stands for; steps that read and write it, and that they hang on nothing but what they log.
-/
import Derived.Test.YtldjfokgfapkiaaGreatDoorAbCore
namespace Go.Ab
open Go.RowKit

noncomputable def fN {β : Type} (n : Nat) (k : Nat → β) : β := Nat.rec (motive := fun _ => β) (k 0) (fun j _ => k (Nat.succ j)) n
theorem fN_eq {β : Type} (n : Nat) (k : Nat → β) : fN n k = k n := by cases n <;> rfl

structure St where
  H : Tr AObj
  n : Nat
  wm : Nat
  log : List (Nat × Bool)

abbrev EM (α : Type) := St → Option (α × St)

def EM.pure {α : Type} (a : α) : EM α := fun s => some (a, s)
def EM.fail {α : Type} : EM α := fun _ => none
def EM.bind {α β : Type} (m : EM α) (f : α → EM β) : EM β := fun s =>
  match m s with
  | none => none
  | some (a, s') => f a s'
def EM.lift {α : Type} (x : Option α) : EM α := fun s =>
  match x with
  | none => none
  | some a => some (a, s)

def AObj.alive : AObj → Bool
  | .dead => false
  | _ => true
def AObj.ro : AObj → Bool
  | .cells r _ _ _ => r
  | _ => false

def note (wm : Nat) (log : List (Nat × Bool)) (l : Nat) (b : Bool) : List (Nat × Bool) :=
  match Nat.blt l wm with
  | true => (l, b) :: log
  | false => log

/-- An object that lies there. -/
noncomputable def rd (l : Nat) : EM AObj := fun s =>
  match s.H.get l with
  | none => none
  | some o => match o.alive with
    | false => none
    | true => some (o, { s with log := note s.wm s.log l false })
/-- Another one in its place. -/
noncomputable def wr (l : Nat) (o : AObj) : EM Unit := fun s =>
  match s.H.get l with
  | none => none
  | some o' => match o'.alive && !o'.ro with
    | false => none
    | true => Tr.setK o l s.H l fun H => some ((), { H, n := s.n, wm := s.wm, log := note s.wm s.log l true })
/-- A new one. -/
noncomputable def newO (o : AObj) : EM Nat := fun s =>
  Tr.setK o s.n s.H s.n fun H => fN (s.n + 1) fun n => some (s.n, { H, n, wm := s.wm, log := s.log })

/-- A map's entries: key, value, and when it was born, if that is known. -/
inductive MRel (ρ : Nat → Int) (φ : PM) : List (AV × AV × Option Nat) → List MapEntry → Prop
  | nil : MRel ρ φ [] []
  | cons (k v : AV) (b : Option Nat) (e : MapEntry) (xs : List (AV × AV × Option Nat)) (es : List MapEntry) (h : VRel ρ φ k e.key) (h' : VRel ρ φ v e.val)
      (hb : ∀ n, b = some n → e.born = n) (h2 : MRel ρ φ xs es) : MRel ρ φ ((k, v, b) :: xs) (e :: es)

def ORel (ρ : Nat → Int) (φ : PM) : AObj → Nat → Obj → Prop
  | .cells ro gr t cs, N, .cells C t' fz => (ro = false → t' = t) ∧ C.size = N ∧ (gr = false → cs.length = N) ∧ cs.length ≤ N ∧
      VRels ρ φ cs (C.toList.take cs.length) ∧ (ro = false → fz = (0, 0))
  | .map es ck, _, .map E clock => MRel ρ φ es E.toList ∧ ∀ n, ck = some n → clock = n
  | _, _, _ => False

theorem MRel.mono {ρ : Nat → Int} {φ φ' : PM} (hφ : φ.le φ') {xs : List (AV × AV × Option Nat)} {es : List MapEntry} (h : MRel ρ φ xs es) : MRel ρ φ' xs es := by
  induction h with
  | nil => exact .nil
  | cons k v b e xs es h h' hb _ ih => exact .cons _ _ _ _ _ _ (h.mono hφ) (h'.mono hφ) hb ih
theorem ORel.mono {ρ : Nat → Int} {φ φ' : PM} (hφ : φ.le φ') {o : AObj} {N : Nat} {x : Obj} (h : ORel ρ φ o N x) : ORel ρ φ' o N x := by
  unfold ORel at *
  split at h
  · obtain ⟨h1, h2, h3, h4, h5, h6⟩ := h; exact ⟨h1, h2, h3, h4, h5.mono hφ, h6⟩
  · exact ⟨MRel.mono hφ h.1, h.2⟩
  · exact h.elim

abbrev Hp := Nat → Option AObj

/-- The object at a place, and where that lies. -/
def At (B : Nat) (ρ : Nat → Int) (φ : PM) (w : World) (l : Nat) (o : AObj) : Prop :=
  ∃ b N x, φ l = some (b, N) ∧ w.heap[b]? = some x ∧ ORel ρ φ o N x ∧ (o.ro = false → B ≤ b)

structure HRel (B : Nat) (ρ : Nat → Int) (φ : PM) (H : Hp) (w : World) : Prop where
  base : B ≤ w.heap.size
  at_ : ∀ l o, H l = some o → o.alive = true → At B ρ φ w l o
  inj : ∀ l l' o o' b N N', H l = some o → H l' = some o' → o.alive = true → o'.alive = true → φ l = some (b, N) → φ l' = some (b, N') → l = l'

/-- A block that may be written into. -/
def Own (φ : PM) (H : Hp) (k : Nat) : Prop := ∃ l o N, H l = some o ∧ o.alive = true ∧ o.ro = false ∧ φ l = some (k, N)

/-- A block that is known. -/
def Has (φ : PM) (H : Hp) (k : Nat) : Prop := ∃ l o N, H l = some o ∧ o.alive = true ∧ φ l = some (k, N)

/-- What is not one's own stays. -/
structure Fr (own : Nat → Prop) (w w' : World) : Prop where
  os : w'.os = w.os
  tape : w'.tape = w.tape
  output : w'.output = w.output
  size : w.heap.size ≤ w'.heap.size
  block : ∀ k, k < w.heap.size → ¬ own k → w'.heap[k]? = w.heap[k]?

theorem Fr.refl (own : Nat → Prop) (w : World) : Fr own w w := ⟨rfl, rfl, rfl, Nat.le_refl _, fun _ _ _ => rfl⟩

structure Post (B : Nat) (ρ : Nat → Int) (φ φ' : PM) (s s' : St) (w w' : World) : Prop where
  le : φ.le φ'
  new : ∀ l, φ l = none → φ' l ≠ none → s.n ≤ l ∧ l < s'.n
  n_le : s.n ≤ s'.n
  rel : HRel B ρ φ' s'.H.get w'
  fr : Fr (Own φ s.H.get) w w'
  own : ∀ k, Own φ' s'.H.get k → Own φ s.H.get k ∨ w.heap.size ≤ k
  has : ∀ k, Has φ' s'.H.get k → Has φ s.H.get k ∨ w.heap.size ≤ k

def Fresh (φ : PM) (a b : Nat) : Prop := ∀ l, a ≤ l → l < b → φ l = none

theorem Post.trans {B : Nat} {ρ : Nat → Int} {φ φ1 φ2 : PM} {s s1 s2 : St} {w w1 w2 : World} (h : Post B ρ φ φ1 s s1 w w1) (h' : Post B ρ φ1 φ2 s1 s2 w1 w2) :
    Post B ρ φ φ2 s s2 w w2 where
  le := PM.le_trans h.le h'.le
  new := fun l hl hl' => by
    by_cases hm : φ1 l = none
    · have := h'.new l hm hl'; have := h.n_le; omega
    · have := h.new l hl hm; have := h'.n_le; omega
  n_le := Nat.le_trans h.n_le h'.n_le
  rel := h'.rel
  fr := ⟨h'.fr.os.trans h.fr.os, h'.fr.tape.trans h.fr.tape, h'.fr.output.trans h.fr.output, Nat.le_trans h.fr.size h'.fr.size, fun k hk ho => by
    rw [h'.fr.block k (Nat.lt_of_lt_of_le hk h.fr.size), h.fr.block k hk ho]
    intro ho'
    rcases h.own k ho' with h1 | h1
    · exact ho h1
    · omega⟩
  own := fun k hk => by
    rcases h'.own k hk with h1 | h1
    · exact h.own k h1
    · exact .inr (Nat.le_trans h.fr.size h1)
  has := fun k hk => by
    rcases h'.has k hk with h1 | h1
    · exact h.has k h1
    · exact .inr (Nat.le_trans h.fr.size h1)

theorem Fresh.left {φ : PM} {a b c : Nat} (h : Fresh φ a c) (hb : b ≤ c) : Fresh φ a b := fun l h1 h2 => h l h1 (Nat.lt_of_lt_of_le h2 hb)
theorem Post.fresh {B : Nat} {ρ : Nat → Int} {φ φ1 : PM} {s s1 : St} {w w1 : World} (h : Post B ρ φ φ1 s s1 w w1) {c : Nat} (hf : Fresh φ s.n c) : Fresh φ1 s1.n c := by
  intro l h1 h2
  by_cases hm : φ1 l = none
  · exact hm
  · have h3 := h.new l (hf l (Nat.le_trans h.n_le h1) h2) hm
    omega

/-- A draw, and nothing else. -/
theorem Fr.drew (own : Nat → Prop) (w : World) (d : Nat) : Fr own w { w with drawn := d } := ⟨rfl, rfl, rfl, Nat.le_refl _, fun _ _ _ => rfl⟩

/- WHAT A STEP HANGS ON -/
def Logged (wm : Nat) (tail : List (Nat × Bool)) (l : Nat) : Prop := wm ≤ l ∨ ∃ b, (l, b) ∈ tail

def Uni {α : Type} (m : EM α) : Prop := ∀ s a s', m s = some (a, s') → s.wm ≤ s.n →
  ∃ tail, s'.log = tail ++ s.log ∧ s'.wm = s.wm ∧ s.n ≤ s'.n ∧
    (∀ l, l < s.wm → (l, true) ∉ tail → s'.H.get l = s.H.get l) ∧
    (∀ l o, s.H.get l = none → s'.H.get l = some o → s.n ≤ l ∧ l < s'.n) ∧
    (∀ l b, (l, b) ∈ tail → l < s.wm) ∧
    ∀ (H2 : Tr AObj) (lg2 : List (Nat × Bool)), (∀ l, Logged s.wm tail l → H2.get l = s.H.get l) →
      ∃ H2', m ⟨H2, s.n, s.wm, lg2⟩ = some (a, ⟨H2', s'.n, s.wm, tail ++ lg2⟩) ∧
        (∀ l, Logged s.wm tail l → H2'.get l = s'.H.get l) ∧ (∀ l, ¬ Logged s.wm tail l → H2'.get l = H2.get l)

section
variable {α β : Type}

theorem Uni.pure (a : α) : Uni (EM.pure a) := by
  intro s b s' h _
  simp only [EM.pure, Option.some.injEq, Prod.mk.injEq] at h
  obtain ⟨rfl, rfl⟩ := h
  refine ⟨[], rfl, rfl, Nat.le_refl _, fun _ _ _ => rfl, fun l o h1 h2 => (by simp [h1] at h2), by simp, fun H2 lg2 hH => ⟨H2, rfl, hH, fun _ _ => rfl⟩⟩
theorem Uni.fail : Uni (EM.fail : EM α) := by
  intro s b s' h _; simp [EM.fail] at h
theorem Uni.lift (x : Option α) : Uni (EM.lift x) := by
  cases x with
  | none => intro s b s' h _; simp [EM.lift] at h
  | some a => exact Uni.pure a

theorem Uni.bind {m : EM α} {f : α → EM β} (hm : Uni m) (hf : ∀ a, Uni (f a)) : Uni (m.bind f) := by
  intro s b s2 h hwm
  unfold EM.bind at h
  split at h
  · simp at h
  · rename_i a s1 hms
    obtain ⟨t1, e1, w1, n1, u1, c1, b1, l1⟩ := hm s a s1 hms hwm
    obtain ⟨t2, e2, w2, n2, u2, c2, b2, l2⟩ := hf a s1 b s2 h (by omega)
    rw [w1] at u2 b2 l2
    refine ⟨t2 ++ t1, by rw [e2, e1, List.append_assoc], w2.trans w1, Nat.le_trans n1 n2, ?_, ?_, ?_, ?_⟩
    · intro l hl hn
      rw [u2 l hl (fun hh => hn (List.mem_append.2 (.inl hh))), u1 l hl (fun hh => hn (List.mem_append.2 (.inr hh)))]
    · intro l o hn hs
      cases hh : s1.H.get l with
      | none => have := c2 l o hh hs; omega
      | some o' => have := c1 l o' hn hh; omega
    · intro l b hl
      rcases List.mem_append.1 hl with hl | hl
      · exact b2 l b hl
      · exact b1 l b hl
    · intro H2 lg2 hH
      obtain ⟨H3, r1, a1, o1⟩ := l1 H2 lg2 (fun l hl => hH l (hl.imp id fun ⟨b, hb⟩ => ⟨b, List.mem_append.2 (.inr hb)⟩))
      have hag : ∀ l, Logged s.wm t2 l → H3.get l = s1.H.get l := by
        intro l hl
        by_cases h1 : Logged s.wm t1 l
        · exact a1 l h1
        · rw [o1 l h1, hH l (hl.imp id fun ⟨b, hb⟩ => ⟨b, List.mem_append.2 (.inl hb)⟩)]
          have : l < s.wm := by
            rcases Nat.lt_or_ge l s.wm with h | h
            · exact h
            · exact absurd (.inl h) h1
          exact (u1 l this (fun hb => h1 (.inr ⟨true, hb⟩))).symm
      obtain ⟨H4, r2, a2, o2⟩ := l2 H3 (t1 ++ lg2) hag
      refine ⟨H4, ?_, ?_, ?_⟩
      · unfold EM.bind; rw [r1]; simp only; rw [r2, List.append_assoc]
      · intro l hl
        by_cases h2 : Logged s.wm t2 l
        · exact a2 l h2
        · rw [o2 l h2]
          have hlt : l < s.wm := by
            rcases Nat.lt_or_ge l s.wm with h | h
            · exact h
            · exact absurd (.inl h) h2
          have h1 : Logged s.wm t1 l := by
            rcases hl with hl | ⟨b, hb⟩
            · exact .inl hl
            · rcases List.mem_append.1 hb with hb | hb
              · exact absurd (.inr ⟨b, hb⟩) h2
              · exact .inr ⟨b, hb⟩
          rw [a1 l h1]
          exact (u2 l hlt (fun hb => h2 (.inr ⟨true, hb⟩))).symm
      · intro l hl
        rw [o2 l (fun h => hl (h.imp id fun ⟨b, hb⟩ => ⟨b, List.mem_append.2 (.inl hb)⟩)),
          o1 l (fun h => hl (h.imp id fun ⟨b, hb⟩ => ⟨b, List.mem_append.2 (.inr hb)⟩))]

theorem note_eq (wm : Nat) (log : List (Nat × Bool)) (l : Nat) (b : Bool) : note wm log l b = (if l < wm then [(l, b)] else []) ++ log := by
  unfold note
  by_cases h : l < wm
  · rw [if_pos h, show Nat.blt l wm = true from (Nat.blt_eq (x := l) (y := wm)).mpr h]; rfl
  · have : Nat.blt l wm = false := by
      cases hb : Nat.blt l wm
      · rfl
      · exact absurd (of_eq_true (by rw [Nat.blt_eq] at hb; exact eq_true hb)) h
    rw [if_neg h, this]; rfl

theorem Logged.of_note {wm l : Nat} {b : Bool} : Logged wm (if l < wm then [(l, b)] else []) l := by
  by_cases h : l < wm
  · exact .inr ⟨b, by simp [h]⟩
  · exact .inl (by omega)

theorem Uni.rd (l : Nat) : Uni (rd l) := by
  intro s a s' h hwm
  unfold Ab.rd at h
  split at h
  · simp at h
  · rename_i o ho
    split at h
    · simp at h
    · rename_i ha
      simp only [Option.some.injEq, Prod.mk.injEq] at h
      obtain ⟨rfl, rfl⟩ := h
      refine ⟨if l < s.wm then [(l, false)] else [], note_eq _ _ _ _, rfl, Nat.le_refl _, fun _ _ _ => rfl, fun l o h1 h2 => ?_, ?_, fun H2 lg2 hH => ⟨H2, ?_, hH, fun _ _ => rfl⟩⟩
      · simp only at h2; rw [h1] at h2; simp at h2
      · intro l' b hb; by_cases h : l < s.wm <;> simp [h] at hb; omega
      · unfold Ab.rd
        simp only
        rw [hH l .of_note, ho]
        simp only [ha, note_eq]

theorem Uni.wr (l : Nat) (o : AObj) : Uni (wr l o) := by
  intro s a s' h hwm
  unfold Ab.wr at h
  split at h
  · simp at h
  · rename_i o' ho
    split at h
    · simp at h
    · rename_i ha
      rw [Tr.setK_eq] at h
      simp only [Option.some.injEq, Prod.mk.injEq, true_and] at h
      subst h
      refine ⟨if l < s.wm then [(l, true)] else [], note_eq _ _ _ _, rfl, Nat.le_refl _, fun k hk hn => ?_, fun k x h1 h2 => ?_, ?_, fun H2 lg2 hH => ⟨H2.set l o, ?_, fun k hk => ?_, fun k hk => ?_⟩⟩
      · simp only [Tr.get_set]
        by_cases e : k = l
        · subst e; simp [hk] at hn
        · rw [if_neg e]
      · simp only [Tr.get_set] at h2
        by_cases e : k = l
        · subst e; rw [ho] at h1; simp at h1
        · rw [if_neg e, h1] at h2; simp at h2
      · intro l' b hb; by_cases h : l < s.wm <;> simp [h] at hb; omega
      · unfold Ab.wr
        simp only
        rw [hH l .of_note, ho]
        simp only [ha, note_eq, Tr.setK_eq]
      · simp only [Tr.get_set, hH k hk]
      · rw [Tr.get_set, if_neg]
        rintro rfl
        exact hk .of_note

theorem Uni.newO (o : AObj) : Uni (newO o) := by
  intro s a s' h hwm
  unfold Ab.newO at h
  rw [Tr.setK_eq, fN_eq] at h
  simp only [Option.some.injEq, Prod.mk.injEq] at h
  obtain ⟨rfl, rfl⟩ := h
  refine ⟨[], rfl, rfl, Nat.le_succ _, fun k hk hn => ?_, fun k x h1 h2 => ?_, by simp, fun H2 lg2 hH => ⟨H2.set s.n o, ?_, fun k hk => ?_, fun k hk => ?_⟩⟩
  · simp only [Tr.get_set]; rw [if_neg (by omega)]
  · simp only [Tr.get_set] at h2
    by_cases e : k = s.n
    · subst e; simp
    · rw [if_neg e, h1] at h2; simp at h2
  · unfold Ab.newO; rw [Tr.setK_eq, fN_eq]; rfl
  · simp only [Tr.get_set, hH k hk]
  · rw [Tr.get_set, if_neg]
    rintro rfl
    exact hk (.inl (by omega))
end
end Go.Ab
