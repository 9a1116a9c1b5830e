/-
  FINITE MAPS BY THE DIGITS OF THEIR KEYS, for reckoning by the kernel: reading and setting, and that what was set is read.
-/
import Derived.Orders
namespace Go.Ab

inductive Tr (α : Type) where
  | leaf : Tr α
  | node (l : Tr α) (v : Option α) (r : Tr α) : Tr α

/-- Reading. -/
noncomputable def Tr.get {α : Type} (t : Tr α) : Nat → Option α :=
  Tr.rec (motive := fun _ => Nat → Option α) (fun _ => none)
    (fun _ v _ gl gr n => Nat.rec (motive := fun _ => Option α) v
      (fun m _ => Bool.rec (motive := fun _ => Option α) (gr (Nat.div (Nat.succ m) 2)) (gl (Nat.div (Nat.succ m) 2)) (Nat.beq (Nat.mod (Nat.succ m) 2) 0)) n) t

/-- Setting, what is done with the new map handed in. -/
noncomputable def Tr.setK {α β : Type} (x : α) (f : Nat) : Tr α → Nat → (Tr α → β) → β :=
  Nat.rec (motive := fun _ => Tr α → Nat → (Tr α → β) → β)
   (fun t _ k => Tr.rec (motive := fun _ => β) (k (.node .leaf (some x) .leaf)) (fun l _ r _ _ => k (.node l (some x) r)) t)
   (fun _ ih t n k =>
     Tr.rec (motive := fun _ => β)
       (Nat.rec (motive := fun _ => β) (k (.node .leaf (some x) .leaf))
         (fun m _ => Bool.rec (motive := fun _ => β) (ih .leaf (Nat.div (Nat.succ m) 2) fun r => k (.node .leaf none r)) (ih .leaf (Nat.div (Nat.succ m) 2) fun l => k (.node l none .leaf)) (Nat.beq (Nat.mod (Nat.succ m) 2) 0)) n)
       (fun l v r _ _ => Nat.rec (motive := fun _ => β) (k (.node l (some x) r))
         (fun m _ => Bool.rec (motive := fun _ => β) (ih r (Nat.div (Nat.succ m) 2) fun r => k (.node l v r)) (ih l (Nat.div (Nat.succ m) 2) fun l => k (.node l v r)) (Nat.beq (Nat.mod (Nat.succ m) 2) 0)) n)
       t) f

noncomputable def Tr.set {α : Type} (t : Tr α) (n : Nat) (x : α) : Tr α := Tr.setK x n t n id

section
variable {α β : Type}

theorem Tr.get_leaf (n : Nat) : (Tr.leaf : Tr α).get n = none := rfl
theorem Tr.get_zero (l r : Tr α) (v : Option α) : (Tr.node l v r).get 0 = v := rfl
theorem Tr.get_succ (l r : Tr α) (v : Option α) (m : Nat) :
    (Tr.node l v r).get (m + 1) = if (m + 1) % 2 = 0 then l.get ((m + 1) / 2) else r.get ((m + 1) / 2) := by
  show Bool.rec (motive := fun _ => Option α) (r.get ((m + 1) / 2)) (l.get ((m + 1) / 2)) (Nat.beq ((m + 1) % 2) 0) = _
  by_cases h : (m + 1) % 2 = 0
  · rw [h]; rfl
  · have : Nat.beq ((m + 1) % 2) 0 = false := by
      cases hb : Nat.beq ((m + 1) % 2) 0
      · rfl
      · exact absurd (Nat.eq_of_beq_eq_true hb) h
    rw [this, if_neg h]

theorem Tr.setK_zero_leaf (x : α) (n : Nat) (k : Tr α → β) : Tr.setK x 0 .leaf n k = k (.node .leaf (some x) .leaf) := rfl
theorem Tr.setK_succ_leaf_zero (x : α) (f : Nat) (k : Tr α → β) : Tr.setK x (f + 1) .leaf 0 k = k (.node .leaf (some x) .leaf) := rfl
theorem Tr.setK_succ_leaf (x : α) (f m : Nat) (k : Tr α → β) : Tr.setK x (f + 1) .leaf (m + 1) k =
    if (m + 1) % 2 = 0 then Tr.setK x f .leaf ((m + 1) / 2) fun l => k (.node l none .leaf) else Tr.setK x f .leaf ((m + 1) / 2) fun r => k (.node .leaf none r) := by
  show Bool.rec (motive := fun _ => β) (Tr.setK x f .leaf ((m + 1) / 2) fun r => k (.node .leaf none r)) (Tr.setK x f .leaf ((m + 1) / 2) fun l => k (.node l none .leaf)) (Nat.beq ((m + 1) % 2) 0) = _
  by_cases h : (m + 1) % 2 = 0
  · rw [h]; rfl
  · have : Nat.beq ((m + 1) % 2) 0 = false := by
      cases hb : Nat.beq ((m + 1) % 2) 0
      · rfl
      · exact absurd (Nat.eq_of_beq_eq_true hb) h
    rw [this, if_neg h]
theorem Tr.setK_succ_node_zero (x : α) (f : Nat) (l r : Tr α) (v : Option α) (k : Tr α → β) : Tr.setK x (f + 1) (.node l v r) 0 k = k (.node l (some x) r) := rfl
theorem Tr.setK_succ_node (x : α) (f m : Nat) (l r : Tr α) (v : Option α) (k : Tr α → β) : Tr.setK x (f + 1) (.node l v r) (m + 1) k =
    if (m + 1) % 2 = 0 then Tr.setK x f l ((m + 1) / 2) fun l => k (.node l v r) else Tr.setK x f r ((m + 1) / 2) fun r => k (.node l v r) := by
  show Bool.rec (motive := fun _ => β) (Tr.setK x f r ((m + 1) / 2) fun r => k (.node l v r)) (Tr.setK x f l ((m + 1) / 2) fun l => k (.node l v r)) (Nat.beq ((m + 1) % 2) 0) = _
  by_cases h : (m + 1) % 2 = 0
  · rw [h]; rfl
  · have : Nat.beq ((m + 1) % 2) 0 = false := by
      cases hb : Nat.beq ((m + 1) % 2) 0
      · rfl
      · exact absurd (Nat.eq_of_beq_eq_true hb) h
    rw [this, if_neg h]

/-- What is handed on is the map with the new value. -/
theorem Tr.setK_spec (x : α) : ∀ (f n : Nat) (t : Tr α) (k : Tr α → β), n ≤ f → ∃ t', Tr.setK x f t n k = k t' ∧
    (∀ k' : Tr α → Tr α, Tr.setK x f t n k' = k' t') ∧ ∀ m, t'.get m = if m = n then some x else t.get m := by
  intro f
  induction f with
  | zero =>
    intro n t k hn
    obtain rfl : n = 0 := by omega
    cases t with
    | leaf =>
      refine ⟨_, rfl, fun _ => rfl, fun m => ?_⟩
      cases m with
      | zero => simp [Tr.get_zero]
      | succ m => rw [Tr.get_succ]; simp [Tr.get_leaf]
    | node l v r =>
      refine ⟨_, rfl, fun _ => rfl, fun m => ?_⟩
      cases m with
      | zero => simp [Tr.get_zero]
      | succ m => rw [Tr.get_succ, Tr.get_succ]; simp
  | succ f ih =>
    intro n t k hn
    cases t with
    | leaf =>
      cases n with
      | zero =>
        refine ⟨_, rfl, fun _ => rfl, fun m => ?_⟩
        cases m with
        | zero => simp [Tr.get_zero]
        | succ m => rw [Tr.get_succ]; simp [Tr.get_leaf]
      | succ n =>
        simp only [Tr.setK_succ_leaf]
        by_cases h : (n + 1) % 2 = 0
        · simp only [h, if_true]
          obtain ⟨t', h1, h2, h3⟩ := ih ((n + 1) / 2) .leaf (fun l => k (.node l none .leaf)) (by omega)
          refine ⟨.node t' none .leaf, h1, fun k' => ?_, fun m => ?_⟩
          · exact (h2 fun l => k' (.node l none .leaf))
          · cases m with
            | zero => simp [Tr.get_zero, Tr.get_leaf]
            | succ m =>
              rw [Tr.get_succ]
              by_cases hm : (m + 1) % 2 = 0
              · rw [if_pos hm, h3]; simp only [Tr.get_leaf]
                by_cases e : m + 1 = n + 1
                · rw [if_pos e, e]; simp
                · rw [if_neg e, if_neg (by omega)]
              · rw [if_neg hm, if_neg (by omega)]; rfl
        · simp only [h, if_false]
          obtain ⟨t', h1, h2, h3⟩ := ih ((n + 1) / 2) .leaf (fun l => k (.node .leaf none l)) (by omega)
          refine ⟨.node .leaf none t', h1, fun k' => (h2 fun l => k' (.node .leaf none l)), fun m => ?_⟩
          cases m with
          | zero => simp [Tr.get_zero, Tr.get_leaf]
          | succ m =>
            rw [Tr.get_succ]
            by_cases hm : (m + 1) % 2 = 0
            · rw [if_pos hm, if_neg (by omega)]; rfl
            · rw [if_neg hm, h3]; simp only [Tr.get_leaf]
              by_cases e : m + 1 = n + 1
              · rw [if_pos e, e]; simp
              · rw [if_neg e, if_neg (by omega)]
    | node l v r =>
      cases n with
      | zero =>
        refine ⟨_, rfl, fun _ => rfl, fun m => ?_⟩
        cases m with
        | zero => simp [Tr.get_zero]
        | succ m => rw [Tr.get_succ, Tr.get_succ]; simp
      | succ n =>
        simp only [Tr.setK_succ_node]
        by_cases h : (n + 1) % 2 = 0
        · simp only [h, if_true]
          obtain ⟨t', h1, h2, h3⟩ := ih ((n + 1) / 2) l (fun l => k (.node l v r)) (by omega)
          refine ⟨.node t' v r, h1, fun k' => (h2 fun l => k' (.node l v r)), fun m => ?_⟩
          cases m with
          | zero => simp [Tr.get_zero]
          | succ m =>
            rw [Tr.get_succ, Tr.get_succ]
            by_cases hm : (m + 1) % 2 = 0
            · rw [if_pos hm, if_pos hm, h3]
              by_cases e : m + 1 = n + 1
              · rw [if_pos e, e]; simp
              · rw [if_neg e, if_neg (by omega)]
            · rw [if_neg hm, if_neg hm, if_neg (by omega)]
        · simp only [h, if_false]
          obtain ⟨t', h1, h2, h3⟩ := ih ((n + 1) / 2) r (fun r => k (.node l v r)) (by omega)
          refine ⟨.node l v t', h1, fun k' => (h2 fun r => k' (.node l v r)), fun m => ?_⟩
          cases m with
          | zero => simp [Tr.get_zero]
          | succ m =>
            rw [Tr.get_succ, Tr.get_succ]
            by_cases hm : (m + 1) % 2 = 0
            · rw [if_pos hm, if_pos hm, if_neg (by omega)]
            · rw [if_neg hm, if_neg hm, h3]
              by_cases e : m + 1 = n + 1
              · rw [if_pos e, e]; simp
              · rw [if_neg e, if_neg (by omega)]

theorem Tr.setK_eq (x : α) (n : Nat) (t : Tr α) (k : Tr α → β) : Tr.setK x n t n k = k (t.set n x) := by
  obtain ⟨t', h1, h2, _⟩ := Tr.setK_spec x n n t k (Nat.le_refl n)
  rw [h1]; unfold Tr.set; rw [h2 id]; rfl
theorem Tr.get_set (t : Tr α) (n : Nat) (x : α) (m : Nat) : (t.set n x).get m = if m = n then some x else t.get m := by
  obtain ⟨t', _, h2, h3⟩ := Tr.setK_spec (β := Tr α) x n n t id (Nat.le_refl n)
  unfold Tr.set; rw [h2 id]; exact h3 m
end
end Go.Ab
