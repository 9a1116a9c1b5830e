/-
  NUMBERS THAT ARE NOT KNOWN: bounds and tests.
-/
import Derived.Test.YtldjfokgfapkiaaGreatDoorAbOps
namespace Go.Ab

def EnvOk (ρ : Nat → Int) (en : Env) : Prop := ∀ i lo hi, en[i]? = some (lo, hi) → lo ≤ ρ i ∧ ρ i ≤ hi

section
variable {P : Program} {B : Nat} {ρ : Nat → Int} {φ : PM} {en : Env}

theorem bnd_ok (he : EnvOk ρ en) : ∀ (e : SI) (l h : Int), bnd en e = some (l, h) → l ≤ e.val ρ ∧ e.val ρ ≤ h
  | .c n, l, h, hb => by simp only [bnd, Option.some.injEq, Prod.mk.injEq] at hb; simp only [SI.val]; omega
  | .v i k, l, h, hb => by
    simp only [bnd] at hb
    split at hb
    · rename_i lo hi hen
      have := he i lo hi hen
      simp only [Option.some.injEq, Prod.mk.injEq] at hb
      simp only [SI.val]; omega
    · simp at hb
  | .bop o a b, l, h, hb => by
    simp only [bnd] at hb
    split at hb
    · rename_i al ah bl bh ha hb'
      have h1 := bnd_ok he a al ah ha
      have h2 := bnd_ok he b bl bh hb'
      simp only [SI.val]
      generalize a.val ρ = x at *
      generalize b.val ρ = y at *
      cases o
      · simp only [Option.some.injEq, Prod.mk.injEq] at hb; simp only [SOp.val]; omega
      · simp only [Option.some.injEq, Prod.mk.injEq] at hb; simp only [SOp.val]; omega
      · simp only [Option.some.injEq, Prod.mk.injEq] at hb
        simp only [SOp.val]
        obtain ⟨rfl, rfl⟩ := hb
        constructor <;> (repeat' split) <;> omega
      · simp only [Option.some.injEq, Prod.mk.injEq] at hb
        simp only [SOp.val]
        obtain ⟨rfl, rfl⟩ := hb
        constructor <;> (repeat' split) <;> omega
      · simp only [Option.some.injEq, Prod.mk.injEq] at hb; simp only [SOp.val]; omega
      · simp only [Option.some.injEq, Prod.mk.injEq] at hb; simp only [SOp.val]; omega
      · simp only [Option.some.injEq, Prod.mk.injEq] at hb; simp only [SOp.val]; omega
      · dsimp only at hb
        split at hb
        · rename_i hc
          simp only [Option.some.injEq, Prod.mk.injEq] at hb
          have e : x = al := by omega
          simp only [SOp.val]
          rw [← hb.1, ← hb.2, e]
          exact ⟨Int.mul_le_mul_of_nonneg_left h2.1 hc.2, Int.mul_le_mul_of_nonneg_left h2.2 hc.2⟩
        · simp at hb
    · simp at hb

theorem siEq_ok : ∀ (a b : SI), siEq a b = true → a.val ρ = b.val ρ := by
  intro a
  induction a with
  | c m => intro b h; cases b <;> simp [siEq] at h; simp [SI.val, h]
  | v i k =>
    intro b h
    cases b <;> simp [siEq] at h
    simp [SI.val, h.1, h.2]
  | bop o a b iha ihb =>
    intro d h
    cases d with
    | c n => cases o <;> simp [siEq] at h
    | v i k => cases o <;> simp [siEq] at h
    | bop o' c d =>
      cases o <;> cases o' <;> simp [siEq] at h <;> simp only [SI.val, iha c h.1, ihb d h.2]

theorem siLt_ok (he : EnvOk ρ en) (a b : SI) (t : Bool) (h : siLt en a b = some t) : t = decide (a.val ρ < b.val ρ) := by
  have viaBounds : ∀ a b : SI, (match bnd en a, bnd en b with
      | some (al, ah), some (bl, bh) => if ah < bl then some true else if bh ≤ al then some false else none
      | _, _ => none) = some t → t = decide (a.val ρ < b.val ρ) := by
    intro a b h
    split at h
    · rename_i al ah bl bh ha hb
      have h1 := bnd_ok he a al ah ha
      have h2 := bnd_ok he b bl bh hb
      split at h
      · simp only [Option.some.injEq] at h; subst h; symm; simp; omega
      · split at h
        · simp only [Option.some.injEq] at h; subst h; symm; simp; omega
        · simp at h
    · simp at h
  unfold siLt at h
  split at h
  · simp only [Option.some.injEq] at h; exact h.symm
  · split at h
    · rename_i i k j l hne
      split at h
      · rename_i hij
        have := Nat.eq_of_beq_eq_true hij
        subst this
        simp only [Option.some.injEq] at h
        subst h
        show decide (k < l) = decide (ρ i + k < ρ i + l)
        by_cases hkl : k < l
        · rw [decide_eq_true hkl, decide_eq_true (by omega)]
        · rw [decide_eq_false hkl, decide_eq_false (by omega)]
      · exact viaBounds _ _ h
    · exact viaBounds _ _ h

theorem siEqual_ok (he : EnvOk ρ en) (a b : SI) (t : Bool) (h : siEqual en a b = some t) : t = decide (a.val ρ = b.val ρ) := by
  unfold siEqual at h
  split at h
  · rename_i hq
    simp only [Option.some.injEq] at h; subst h
    simp [siEq_ok a b hq]
  · split at h
    · rename_i hq
      have := siLt_ok he a b true hq
      simp only [Option.some.injEq] at h; subst h
      symm; simp at this ⊢; omega
    · split at h
      · rename_i hq
        have := siLt_ok he b a true hq
        simp only [Option.some.injEq] at h; subst h
        symm; simp at this ⊢; omega
      · simp at h
end
end Go.Ab
