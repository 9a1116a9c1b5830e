/-
  TasksHome, the plain law: where the vehicle is behind each turn; it comes to its goal and stays.
-/
import Derived.Test.YtldjfokgfapkiaaGreatDoorHmT
import Derived.Test.YtldjfokgfapkiaaGreatDoorHmL
namespace Go.Proofs.YtldjfokgfapkiaaGreatDoor
open Go Go.Ab
namespace Hm
/-- Where the vehicle is, and how fast it goes, behind so many turns, in one direction. -/
def go (g : Int) : Nat → Int × Int
  | 0 => (0, 0)
  | k + 1 => ((go g k).1 + (go g k).2, let d := g - ((go g k).1 + (go g k).2); let m := if d < 4 then d else 4; if -4 < m then m else -4)
abbrev px (g : Int) (k : Nat) : Int := (go g k).1
abbrev pv (g : Int) (k : Nat) : Int := (go g k).2
theorem px_succ (g : Int) (k : Nat) : px g (k + 1) = px g k + pv g k := rfl
theorem pv_succ (g : Int) (k : Nat) : pv g (k + 1) = SOp.val .mx (-4) (SOp.val .mn 4 (g - px g (k + 1))) := rfl
theorem mx_mn (d : Int) : SOp.val .mx (-4) (SOp.val .mn 4 d) = if d < -4 then -4 else if d < 4 then d else 4 := by
  simp only [SOp.val]; split <;> split <;> split <;> omega
theorem bound (g : Int) (h1 : -100 ≤ g) (h2 : g ≤ 100) : ∀ k, -100 ≤ px g k ∧ px g k ≤ 100 ∧ -100 ≤ px g k + pv g k ∧ px g k + pv g k ≤ 100 ∧ -4 ≤ pv g k ∧ pv g k ≤ 4
  | 0 => by simp [px, pv, go]
  | k + 1 => by
    obtain ⟨a, b, c, d, e, f⟩ := bound g h1 h2 k
    rw [pv_succ, mx_mn, px_succ]
    refine ⟨c, d, ?_, ?_, ?_, ?_⟩ <;> split <;> (try split) <;> omega
theorem there_all : ((List.range 201).all fun n => decide (go ((n : Int) - 100) 60 = ((n : Int) - 100, 0)) && decide ((go ((n : Int) - 100) 59).2 = 0)) = true := by decide +kernel
theorem there (g : Int) (h1 : -100 ≤ g) (h2 : g ≤ 100) : px g 60 = g ∧ pv g 60 = 0 ∧ pv g 59 = 0 := by
  have h := List.all_eq_true.1 there_all (g + 100).toNat (List.mem_range.2 (by omega))
  simp only [Bool.and_eq_true, decide_eq_true_eq] at h
  have e : (((g + 100).toNat : Nat) : Int) - 100 = g := by omega
  rw [e] at h
  exact ⟨by simp [px, h.1], by simp [pv, h.1], h.2⟩

/-- What the numbers are behind so many turns. -/
structure J (re im : Int) (k : Nat) (ρ : Nat → Int) : Prop where
  h0 : ρ 0 = re
  h1 : ρ 1 = im
  h2 : ρ 2 = px re k
  h3 : ρ 3 = px im k
  h4 : ρ 4 = pv re k
  h5 : ρ 5 = pv im k
  h6 : 4 ≤ ρ 6
  h7 : -4 ≤ ρ 7 ∧ ρ 7 ≤ 4
  h8 : -4 ≤ ρ 8 ∧ ρ 8 ≤ 4
  hw : ∀ i, 9 ≤ i → i < 16 → 0 ≤ ρ i ∧ ρ i ≤ 18446744073709551615
/-- The same, and the turn's number, and what was. -/
structure K (re im : Int) (k : Nat) (ρ : Nat → Int) : Prop extends J re im (k + 1) ρ where
  hk : ρ 6 = k + 1
  was : ρ 7 = pv re k
  was' : ρ 8 = pv im k
  word : ρ 9 = SOp.val .pk (ρ 7) (ρ 8)

variable {re im : Int} {k : Nat} {ρ : Nat → Int}
theorem J.env (hr : -100 ≤ re ∧ re ≤ 100) (hi : -100 ≤ im ∧ im ≤ 100) (h : J re im k ρ) (h6 : ρ 6 ≤ 59) : EnvOk ρ en := by
  obtain ⟨a1, a2, _, _, a5, a6⟩ := bound re hr.1 hr.2 k
  obtain ⟨b1, b2, _, _, b5, b6⟩ := bound im hi.1 hi.2 k
  have e0 := h.h0; have e1 := h.h1; have e2 := h.h2; have e3 := h.h3; have e4 := h.h4; have e5 := h.h5; have e6 := h.h6; have e7 := h.h7; have e8 := h.h8
  intro i lo hi' hx
  match i, hx with
  | 0, hx | 1, hx | 2, hx | 3, hx | 4, hx | 5, hx | 6, hx | 7, hx | 8, hx => simp [en] at hx; omega
  | 9, hx => have := h.hw 9 (by decide) (by decide); simp [en] at hx; omega
  | 10, hx => have := h.hw 10 (by decide) (by decide); simp [en] at hx; omega
  | 11, hx => have := h.hw 11 (by decide) (by decide); simp [en] at hx; omega
  | 12, hx => have := h.hw 12 (by decide) (by decide); simp [en] at hx; omega
  | 13, hx => have := h.hw 13 (by decide) (by decide); simp [en] at hx; omega
  | 14, hx => have := h.hw 14 (by decide) (by decide); simp [en] at hx; omega
  | 15, hx => have := h.hw 15 (by decide) (by decide); simp [en] at hx; omega
  | i + 16, hx =>
    rw [List.getElem?_eq_none (by simp [en])] at hx
    cases hx

theorem pk_range (a b : Int) : 0 ≤ SOp.val .pk a b ∧ SOp.val .pk a b ≤ 18446744073709551615 := by simp only [SOp.val]; omega

/-- A turn's renaming keeps what is known. -/
theorem J.turn {σ : List SI} (h : J re im k ρ) (s0 : newρ σ ρ 0 = ρ 0) (s1 : newρ σ ρ 1 = ρ 1) (s2 : newρ σ ρ 2 = ρ 2 + ρ 4) (s3 : newρ σ ρ 3 = ρ 3 + ρ 5)
    (s4 : newρ σ ρ 4 = SOp.val .mx (-4) (SOp.val .mn 4 (ρ 0 - (ρ 2 + ρ 4)))) (s5 : newρ σ ρ 5 = SOp.val .mx (-4) (SOp.val .mn 4 (ρ 1 - (ρ 3 + ρ 5))))
    (s6 : 4 ≤ newρ σ ρ 6) (s7 : -4 ≤ newρ σ ρ 7 ∧ newρ σ ρ 7 ≤ 4) (s8 : -4 ≤ newρ σ ρ 8 ∧ newρ σ ρ 8 ≤ 4) (sw : ∀ i, 9 ≤ i → i < 16 → 0 ≤ newρ σ ρ i ∧ newρ σ ρ i ≤ 18446744073709551615) :
    J re im (k + 1) (newρ σ ρ) where
  h0 := s0.trans h.h0
  h1 := s1.trans h.h1
  h2 := by rw [s2, h.h2, h.h4, px_succ]
  h3 := by rw [s3, h.h3, h.h5, px_succ]
  h4 := by rw [s4, h.h0, h.h2, h.h4, pv_succ, px_succ]
  h5 := by rw [s5, h.h1, h.h3, h.h5, pv_succ, px_succ]
  h6 := s6
  h7 := s7
  h8 := s8
  hw := sw

end Hm
end Go.Proofs.YtldjfokgfapkiaaGreatDoor
