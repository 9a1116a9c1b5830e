/-
  NUMBERS THAT ARE NOT KNOWN: bounds, tests, sums; floats that are whole numbers.
-/
import Derived.Test.YtldjfokgfapkiaaGreatDoorAbSim5
import Derived.Test.YtldjfokgfapkiaaGreatDoorAbSym0
import Derived.Test.YtldjfokgfapkiaaGreatDoorAbFloat
namespace Go.Ab

section
variable {P : Program} {B : Nat} {ρ : Nat → Int} {φ : PM} {en : Env}

theorem isZ_ok {b : SI} (h : isZ b = true) : b.val ρ = 0 := by
  cases b <;> simp [isZ] at h
  subst h; rfl
theorem siAdd_ok (a b : SI) : (siAdd a b).val ρ = a.val ρ + b.val ρ := by
  unfold siAdd
  split
  · simp only [SI.val]
  · simp only [SI.val]; omega
  · simp only [SI.val]; omega
  · simp only [SI.val, SOp.val]; omega
  · split
    · rename_i h; rw [isZ_ok h]; omega
    · split
      · rename_i h; rw [isZ_ok h]; omega
      · simp only [SI.val, SOp.val]
theorem siSub_ok (a b : SI) : (siSub a b).val ρ = a.val ρ - b.val ρ := by
  unfold siSub
  split
  · simp only [SI.val]
  · simp only [SI.val]; omega
  · split
    · rename_i h
      have := Nat.eq_of_beq_eq_true h
      subst this
      simp only [SI.val]; omega
    · simp only [SI.val, SOp.val]
  · simp only [SI.val, SOp.val]; omega
  · simp only [SI.val, SOp.val]
theorem siMul_ok (a b : SI) : (siMul a b).val ρ = a.val ρ * b.val ρ := by
  unfold siMul
  split
  · simp only [SI.val]
  · split
    · rename_i h; subst h; simp only [SI.val, SOp.val]
    · simp only [SI.val, SOp.val, Int.mul_add, Int.add_zero]
  · simp only [SI.val, SOp.val]
theorem siRem_ok (he : EnvOk ρ en) {a b e : SI} (h : siRem en a b = some e) : 0 ≤ a.val ρ ∧ 0 < b.val ρ ∧ e.val ρ = (a.val ρ).tmod (b.val ρ) := by
  unfold siRem at h
  split at h
  · rename_i m y r n
    split at h
    · rename_i l u hb
      split at h
      · rename_i hc
        obtain ⟨rfl, h1, h2, h3⟩ := hc
        have hy := bnd_ok he _ _ _ hb
        simp only [Option.some.injEq] at h; subst h
        have hm : 0 ≤ m * y.val ρ := Int.mul_nonneg (by omega) (by omega)
        simp only [SI.val, SOp.val]
        refine ⟨by omega, h1, ?_⟩
        rw [Int.tmod_eq_emod_of_nonneg (by omega), Int.add_comm, Int.add_mul_emod_self_left]
      · simp at h
    · simp at h
  · simp at h

theorem inR_ok (he : EnvOk ρ en) {k : IntKind} {e : SI} (h : inR en k e = true) : k.min ≤ e.val ρ ∧ e.val ρ ≤ k.max := by
  unfold inR at h
  split at h
  · rename_i l u hb
    have := bnd_ok he e l u hb
    simp only [Bool.and_eq_true, decide_eq_true_eq] at h
    omega
  · simp at h
theorem wrap_in {k : IntKind} {n : Int} (h : k.min ≤ n ∧ n ≤ k.max) : k.wrap n = n := by
  obtain ⟨h1, h2⟩ := h
  cases k <;> simp only [IntKind.min, IntKind.max, IntKind.wrap, IntKind.signed, IntKind.bits, if_true, if_false, Bool.false_eq_true, Bool.true_and, Bool.false_and] at * <;>
    (try split) <;> (try simp only [decide_eq_true_eq, ge_iff_le] at *) <;> omega

theorem yesO_some {x : Option Bool} {v : AV} (h : yesO x = some v) : ∃ b, x = some b ∧ v = .bool b := by
  cases x <;> simp [yesO] at h; exact ⟨_, rfl, h.symm⟩
theorem notO_some {x : Option Bool} {v : AV} (h : notO x = some v) : ∃ b, x = some b ∧ v = .bool !b := by
  cases x <;> simp [notO] at h; exact ⟨_, rfl, h.symm⟩

theorem beq_dec (x y : Int) : (x == y) = decide (x = y) := by rw [Bool.eq_iff_iff]; simp
theorem le_dec (x y : Int) : decide (x ≤ y) = !decide (y < x) := by rw [Bool.eq_iff_iff]; simp

theorem aInt_ok (he : EnvOk ρ en) {op : BinOp} {k : IntKind} {a b : SI} {v : AV} {t : Nat} (h : aInt en op k a b = some v) :
    ∃ u, (∀ w, (binOp op t (.int k (a.val ρ)) (.int k (b.val ρ))).run P w = .ok u w) ∧ VRel ρ φ v u := by
  unfold aInt at h
  split at h
  · split at h
    · rename_i hr
      simp only [Option.some.injEq] at h; subst h
      have := wrap_in (inR_ok he hr)
      rw [siAdd_ok] at this
      exact ⟨.int k (a.val ρ + b.val ρ), fun w => by simp [binOp, Op.intArith, this], .int _ _ _ (siAdd_ok a b)⟩
    · simp at h
  · split at h
    · rename_i hr
      simp only [Option.some.injEq] at h; subst h
      have := wrap_in (inR_ok he hr)
      rw [siSub_ok] at this
      exact ⟨.int k (a.val ρ - b.val ρ), fun w => by simp [binOp, Op.intArith, this], .int _ _ _ (siSub_ok a b)⟩
    · simp at h
  · obtain ⟨t, ht, rfl⟩ := yesO_some h
    have := siEqual_ok he a b t ht
    exact ⟨.bool t, fun w => by simp [binOp, Op.intCmp, this, beq_dec], .bool _⟩
  · obtain ⟨t, ht, rfl⟩ := notO_some h
    have := siEqual_ok he a b t ht
    exact ⟨.bool !t, fun w => by simp [binOp, Op.intCmp, this, bne, beq_dec], .bool _⟩
  · obtain ⟨t, ht, rfl⟩ := yesO_some h
    have := siLt_ok he a b t ht
    exact ⟨.bool t, fun w => by simp [binOp, Op.intCmp, this], .bool _⟩
  · obtain ⟨t, ht, rfl⟩ := notO_some h
    have := siLt_ok he a b t ht
    exact ⟨.bool !t, fun w => by simp only [binOp, Op.intCmp, ne_eq, not_true_eq_false, if_false, le_dec, this]; rfl, .bool _⟩
  · obtain ⟨t, ht, rfl⟩ := yesO_some h
    have := siLt_ok he b a t ht
    exact ⟨.bool t, fun w => by simp [binOp, Op.intCmp, this], .bool _⟩
  · obtain ⟨t, ht, rfl⟩ := notO_some h
    have := siLt_ok he b a t ht
    exact ⟨.bool !t, fun w => by simp only [binOp, Op.intCmp, ne_eq, not_true_eq_false, if_false, le_dec, this]; rfl, .bool _⟩
  · split at h
    · rename_i e hrem
      split at h
      · rename_i hr
        simp only [Option.some.injEq] at h; subst h
        obtain ⟨h1, h2, h3⟩ := siRem_ok he hrem
        refine ⟨.int k (e.val ρ), fun w => ?_, .int _ _ _ rfl⟩
        have hb : b.val ρ ≠ 0 := by omega
        rw [h3]
        simp [binOp, Op.intDiv, hb]
      · simp at h
    · simp at h
  · simp at h

theorem small_ok (he : EnvOk ρ en) {e : SI} (h : small en e = true) : (e.val ρ).natAbs ≤ 2 ^ 50 := by
  unfold small at h
  split at h
  · rename_i l u hb
    have := bnd_ok he e l u hb
    simp only [Bool.and_eq_true, decide_eq_true_eq] at h
    omega
  · simp at h

theorem sfInt_ok {f : SF} {e : SI} (h : sfInt f = some e) : f.val ρ = FloatKind.f64.nearest (e.val ρ) := by
  unfold sfInt at h
  split at h
  · simp only [Option.some.injEq] at h; subst h; rfl
  · split at h
    · split at h
      · rename_i hq
        simp only [Option.some.injEq] at h; subst h
        simp only [SF.val, SI.val]
        exact (Nat.eq_of_beq_eq_true hq).symm
      · simp at h
    · simp at h

theorem ord_lt {x y : Int} : (some (compare x y) == some Ordering.lt) = decide (x < y) := by
  rw [Bool.eq_iff_iff]; simp [Int.compare_eq_lt]
theorem ord_gt {x y : Int} : (some (compare x y) == some Ordering.gt) = decide (y < x) := by
  rw [Bool.eq_iff_iff]; simp [Int.compare_eq_gt]
theorem ord_eq {x y : Int} : (some (compare x y) == some Ordering.eq) = decide (x = y) := by
  rw [Bool.eq_iff_iff]; simp

theorem aFloat_ok (he : EnvOk ρ en) {op : BinOp} {f g : SF} {v : AV} {t : Nat} (h : aFloat en op f g = some v) :
    ∃ u, (∀ w, (binOp op t (.float .f64 (f.val ρ)) (.float .f64 (g.val ρ))).run P w = .ok u w) ∧ VRel ρ φ v u := by
  unfold aFloat at h
  split at h
  · rename_i a b ha hb
    rw [sfInt_ok (ρ := ρ) ha, sfInt_ok (ρ := ρ) hb]
    split at h
    · simp at h
    · rename_i hs
      simp only [Bool.and_eq_true] at hs
      have ha := small_ok he hs.1
      have hb := small_ok he hs.2
      have h51 : (2 : Nat) ^ 50 ≤ 2 ^ 51 := by decide
      have hord := order_int (m := a.val ρ) (n := b.val ρ) (by omega) (by omega)
      split at h
      · simp only [Option.some.injEq] at h; subst h
        have := add_int (m := a.val ρ) (n := b.val ρ) (by omega) (by omega)
        exact ⟨.float .f64 (FloatKind.f64.nearest (a.val ρ + b.val ρ)), fun w => by simp [binOp, Op.floatArith, this], .float _ _ _ (by simp [SF.val, siAdd_ok])⟩
      · simp only [Option.some.injEq] at h; subst h
        have := sub_int (m := a.val ρ) (n := b.val ρ) (by omega) (by omega)
        exact ⟨.float .f64 (FloatKind.f64.nearest (a.val ρ - b.val ρ)), fun w => by simp [binOp, Op.floatArith, this], .float _ _ _ (by simp [SF.val, siSub_ok])⟩
      · obtain ⟨t, ht, rfl⟩ := yesO_some h
        have := siEqual_ok he a b t ht
        exact ⟨.bool t, fun w => by simp only [binOp, Op.floatCmp, hord, ord_eq, this]; rfl, .bool _⟩
      · obtain ⟨t, ht, rfl⟩ := notO_some h
        have := siEqual_ok he a b t ht
        exact ⟨.bool !t, fun w => by simp only [binOp, Op.floatCmp, hord, bne, ord_eq, this]; rfl, .bool _⟩
      · obtain ⟨t, ht, rfl⟩ := yesO_some h
        have := siLt_ok he a b t ht
        exact ⟨.bool t, fun w => by simp only [binOp, Op.floatCmp, hord, ord_lt, this]; rfl, .bool _⟩
      · obtain ⟨t, ht, rfl⟩ := notO_some h
        have := siLt_ok he a b t ht
        refine ⟨.bool !t, fun w => ?_, .bool _⟩
        have e : (decide (b.val ρ < a.val ρ) || decide (a.val ρ = b.val ρ)) = !t := by rw [this, Bool.eq_iff_iff]; simp; omega
        simp only [binOp, Op.floatCmp, hord, ord_gt, ord_eq, e]; rfl
      · obtain ⟨t, ht, rfl⟩ := yesO_some h
        have := siLt_ok he b a t ht
        exact ⟨.bool t, fun w => by simp only [binOp, Op.floatCmp, hord, ord_gt, this]; rfl, .bool _⟩
      · obtain ⟨t, ht, rfl⟩ := notO_some h
        have := siLt_ok he b a t ht
        refine ⟨.bool !t, fun w => ?_, .bool _⟩
        have e : (decide (a.val ρ < b.val ρ) || decide (a.val ρ = b.val ρ)) = !t := by rw [this, Bool.eq_iff_iff]; simp; omega
        simp only [binOp, Op.floatCmp, hord, ord_lt, ord_eq, e]; rfl
      · simp at h
  · simp at h

theorem andO_some {x y : Option Bool} {t : Bool} (h : andO x y = some t) : ∃ a b, x = some a ∧ y = some b ∧ t = (a && b) := by
  cases x <;> cases y <;> simp [andO] at h; exact ⟨_, _, rfl, rfl, h.symm⟩

theorem aCplx_ok (he : EnvOk ρ en) {op : BinOp} {a b c d : SF} {v : AV} {t : Nat} (h : aCplx en op a b c d = some v) :
    ∃ u, (∀ w, (binOp op t (.complex .f64 (a.val ρ) (b.val ρ)) (.complex .f64 (c.val ρ) (d.val ρ))).run P w = .ok u w) ∧ VRel ρ φ v u := by
  unfold aCplx at h
  split at h
  · rename_i a' b' c' d' ha hb hc hd
    rw [sfInt_ok (ρ := ρ) ha, sfInt_ok (ρ := ρ) hb, sfInt_ok (ρ := ρ) hc, sfInt_ok (ρ := ρ) hd]
    split at h
    · simp at h
    · rename_i hs
      simp only [Bool.and_eq_true] at hs
      have h1 := small_ok he hs.1.1
      have h2 := small_ok he hs.1.2
      have h3 := small_ok he hs.2.1
      have h4 := small_ok he hs.2.2
      have h51 : (2 : Nat) ^ 50 ≤ 2 ^ 51 := by decide
      have o1 := order_int (m := a'.val ρ) (n := c'.val ρ) (by omega) (by omega)
      have o2 := order_int (m := b'.val ρ) (n := d'.val ρ) (by omega) (by omega)
      split at h
      · simp only [Option.some.injEq] at h; subst h
        have s1 := add_int (m := a'.val ρ) (n := c'.val ρ) (by omega) (by omega)
        have s2 := add_int (m := b'.val ρ) (n := d'.val ρ) (by omega) (by omega)
        exact ⟨.complex .f64 (FloatKind.f64.nearest (a'.val ρ + c'.val ρ)) (FloatKind.f64.nearest (b'.val ρ + d'.val ρ)), fun w => by simp [binOp, Op.complexOp, Op.Complex.arith, Op.floatArith, s1, s2],
          .complex _ _ _ _ _ (by simp [SF.val, siAdd_ok]) (by simp [SF.val, siAdd_ok])⟩
      · simp only [Option.some.injEq] at h; subst h
        have s1 := sub_int (m := a'.val ρ) (n := c'.val ρ) (by omega) (by omega)
        have s2 := sub_int (m := b'.val ρ) (n := d'.val ρ) (by omega) (by omega)
        exact ⟨.complex .f64 (FloatKind.f64.nearest (a'.val ρ - c'.val ρ)) (FloatKind.f64.nearest (b'.val ρ - d'.val ρ)), fun w => by simp [binOp, Op.complexOp, Op.Complex.arith, Op.floatArith, s1, s2],
          .complex _ _ _ _ _ (by simp [SF.val, siSub_ok]) (by simp [SF.val, siSub_ok])⟩
      · obtain ⟨t, ht, rfl⟩ := yesO_some h
        obtain ⟨x, y, hx, hy, rfl⟩ := andO_some ht
        have e1 := siEqual_ok he a' c' x hx
        have e2 := siEqual_ok he b' d' y hy
        exact ⟨.bool (x && y), fun w => by
          simp only [binOp, Op.complexOp, Op.Complex.cmp, Op.floatCmp, o1, o2, ord_eq, ← e1, ← e2, Sem.run_bind, Sem.run_pure, Result.andThen_ok, asBool, ne_eq, not_true_eq_false, if_false], .bool _⟩
      · obtain ⟨t, ht, rfl⟩ := notO_some h
        obtain ⟨x, y, hx, hy, rfl⟩ := andO_some ht
        have e1 := siEqual_ok he a' c' x hx
        have e2 := siEqual_ok he b' d' y hy
        exact ⟨.bool !(x && y), fun w => by
          simp only [binOp, Op.complexOp, Op.Complex.cmp, Op.floatCmp, o1, o2, ord_eq, ← e1, ← e2, Sem.run_bind, Sem.run_pure, Result.andThen_ok, asBool, ne_eq, not_true_eq_false, if_false], .bool _⟩
      · simp at h
  · simp at h
end
end Go.Ab
