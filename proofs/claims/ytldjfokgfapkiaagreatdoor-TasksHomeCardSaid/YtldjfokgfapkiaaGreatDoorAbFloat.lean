/-
  WHOLE NUMBERS AS FLOATS: what float64 makes of whole numbers of at most 2^52.
-/
import Derived.Test.YtldjfokgfapkiaaGreatDoorAbCore
namespace Go.Ab
open Ieee

theorem log2_mul_pow (n k : Nat) (h : n ≠ 0) : (n * 2 ^ k).log2 = n.log2 + k := by
  have h1 := Nat.log2_self_le h
  have h2 := Nat.lt_log2_self (n := n)
  have hp : 0 < 2 ^ k := Nat.two_pow_pos k
  have hne : n * 2 ^ k ≠ 0 := Nat.mul_ne_zero h (by omega)
  refine (Nat.log2_eq_iff hne).2 ⟨?_, ?_⟩
  · rw [Nat.pow_add]; exact Nat.mul_le_mul_right _ h1
  · rw [show n.log2 + k + 1 = (n.log2 + 1) + k by omega, Nat.pow_add]
    exact Nat.mul_lt_mul_of_pos_right h2 hp

theorem leastPlace_double : double.leastPlace = -1074 := by decide
theorem binade_double : double.binade = 2 ^ 52 := rfl
theorem infRung_double : double.infRung = 2047 * 2 ^ 52 := by decide
theorem signWeight_double : double.signWeight = 2 ^ 63 := rfl

/-- The rung of a whole number. -/
def rungOf (n : Nat) : Nat := (n.log2 + 1022) * 2 ^ 52 + n * 2 ^ (52 - n.log2)

theorem scaled (n : Nat) (h : n ≠ 0) (hn : n.log2 ≤ 52) : 2 ^ 52 ≤ n * 2 ^ (52 - n.log2) ∧ n * 2 ^ (52 - n.log2) < 2 ^ 53 := by
  have h1 := Nat.log2_self_le h
  have h2 := Nat.lt_log2_self (n := n)
  have hp : 0 < 2 ^ (52 - n.log2) := Nat.two_pow_pos _
  constructor
  · have := Nat.mul_le_mul_right (2 ^ (52 - n.log2)) h1
    rwa [← Nat.pow_add, Nat.add_sub_cancel' hn] at this
  · have := Nat.mul_lt_mul_of_pos_right h2 hp
    rwa [← Nat.pow_add, show n.log2 + 1 + (52 - n.log2) = 53 by omega] at this

theorem cut_exact (way : Toward) (neg : Bool) (m d : Nat) : way.cut neg (m * 2 ^ d) d = m := by
  rcases Nat.eq_zero_or_pos m with rfl | hm
  · unfold Toward.cut
    simp only [Nat.zero_mul, Nat.zero_div, Nat.zero_mod]
    have h1 : 0 < 1 <<< min d (Nat.log2 0 + 2) := by rw [Nat.shiftLeft_eq]; simp; exact Nat.two_pow_pos _
    cases way <;> simp <;> (try omega)
  · have hne : m ≠ 0 := by omega
    have hmin : min d ((m * 2 ^ d).log2 + 2) = d := by rw [log2_mul_pow m d hne]; omega
    have hp : 0 < 2 ^ d := Nat.two_pow_pos d
    unfold Toward.cut
    simp only [hmin, Nat.shiftLeft_eq, Nat.one_mul, Nat.mul_div_cancel _ hp, Nat.mul_mod_left]
    cases way <;> simp <;> (try omega)

theorem arith_min (q r : Nat) (h1 : 2 ^ 52 ≤ q) (h2 : q < 2 ^ 53) (h3 : r ≤ 1074 * 2 ^ 52) : min (r + q) (2047 * 2 ^ 52) = r + q := by omega
theorem arith_rung (q r r' : Nat) (h1 : 2 ^ 52 ≤ q) (h : r' = r + 2 ^ 52) : r + q = r' + (q - 2 ^ 52) := by omega
theorem arith_lt (q r : Nat) (h2 : q < 2 ^ 53) (h3 : r ≤ 1075 * 2 ^ 52) : r + (q - 2 ^ 52) < 2 ^ 63 ∧ r + (q - 2 ^ 52) < 2047 * 2 ^ 52 := by omega
theorem arith_ge (q r : Nat) (h3 : 1023 * 2 ^ 52 ≤ r) : ¬ r + (q - 2 ^ 52) < 2 ^ 52 := by omega
theorem arith_sub (q : Nat) (h1 : 2 ^ 52 ≤ q) (h2 : q < 2 ^ 53) : q - 2 ^ 52 < 2 ^ 52 ∧ 2 ^ 52 + (q - 2 ^ 52) = q := by omega

theorem nearest_rep (neg : Bool) (n k : Nat) (h : n ≠ 0) (hn : n.log2 ≤ 52) : double.nearest neg (n * 2 ^ k) (-(k : Int)) = double.word neg (rungOf n) := by
  have hne : n * 2 ^ k ≠ 0 := Nat.mul_ne_zero h (by have := Nat.two_pow_pos k; omega)
  have hs := scaled n h hn
  unfold Format.nearest
  rw [if_neg hne, log2_mul_pow n k h, leastPlace_double]
  have hfb : (double.fractionBits : Int) = 52 := rfl
  have hlast : max (-(k : Int) + ((n.log2 + k : Nat) : Int) - (double.fractionBits : Int)) (-1074) = (n.log2 : Int) - 52 := by rw [hfb]; omega
  simp only [hlast]
  have hkept : Toward.even.cut neg ((n * 2 ^ k) <<< (-(k : Int) - ((n.log2 : Int) - 52)).toNat) (((n.log2 : Int) - 52) - -(k : Int)).toNat = n * 2 ^ (52 - n.log2) := by
    by_cases hk : k ≤ 52 - n.log2
    · have e1 : (-(k : Int) - ((n.log2 : Int) - 52)).toNat = 52 - n.log2 - k := by omega
      have e2 : (((n.log2 : Int) - 52) - -(k : Int)).toNat = 0 := by omega
      rw [e1, e2, Nat.shiftLeft_eq, Nat.mul_assoc, ← Nat.pow_add, show k + (52 - n.log2 - k) = 52 - n.log2 by omega]
      have := cut_exact .even neg (n * 2 ^ (52 - n.log2)) 0
      simpa using this
    · have e1 : (-(k : Int) - ((n.log2 : Int) - 52)).toNat = 0 := by omega
      have e2 : (((n.log2 : Int) - 52) - -(k : Int)).toNat = k - (52 - n.log2) := by omega
      rw [e1, e2, Nat.shiftLeft_zero]
      have e3 : n * 2 ^ k = (n * 2 ^ (52 - n.log2)) * 2 ^ (k - (52 - n.log2)) := by
        rw [Nat.mul_assoc, ← Nat.pow_add, show 52 - n.log2 + (k - (52 - n.log2)) = k by omega]
      rw [e3]
      exact cut_exact .even neg _ _
  rw [hkept, binade_double, infRung_double]
  have e4 : ((n.log2 : Int) - 52 - -1074).toNat = n.log2 + 1022 := by omega
  rw [e4]
  congr 1
  unfold rungOf
  exact arith_min (n * 2 ^ (52 - n.log2)) ((n.log2 + 1022) * 2 ^ 52) hs.1 hs.2 (Nat.mul_le_mul_right _ (by omega))

theorem nearest_zero (neg : Bool) (p : Int) : double.nearest neg 0 p = double.word neg 0 := by simp [Format.nearest]

set_option maxRecDepth 100000 in
/-- What a whole number's word stands for. -/
theorem read_word (neg : Bool) (n : Nat) (h : n ≠ 0) (hn : n.log2 ≤ 52) : double.read (double.word neg (rungOf n)) = .number neg (n * 2 ^ (52 - n.log2)) ((n.log2 : Int) - 52) := by
  have hs := scaled n h hn
  have hr : rungOf n = (n.log2 + 1023) * 2 ^ 52 + (n * 2 ^ (52 - n.log2) - 2 ^ 52) := by
    unfold rungOf
    exact arith_rung (n * 2 ^ (52 - n.log2)) ((n.log2 + 1022) * 2 ^ 52) ((n.log2 + 1023) * 2 ^ 52) hs.1 (by rw [show n.log2 + 1023 = (n.log2 + 1022) + 1 by omega, Nat.add_mul, Nat.one_mul])
  have hb := arith_lt (n * 2 ^ (52 - n.log2)) ((n.log2 + 1023) * 2 ^ 52) hs.2 (Nat.mul_le_mul_right _ (by omega))
  rw [← hr] at hb
  have hlt : rungOf n < 2 ^ 63 := hb.1
  have hsub := arith_sub (n * 2 ^ (52 - n.log2)) hs.1 hs.2
  have hw1 : double.word neg (rungOf n) / double.signWeight % 2 = neg.toNat := by
    rw [signWeight_double]
    cases neg
    · simp only [Format.word, Bool.false_eq_true, if_false, Bool.toNat_false]
      rw [Nat.div_eq_of_lt hlt]
    · simp only [Format.word, if_true, signWeight_double, Bool.toNat_true]
      rw [Nat.add_div_left _ (by decide), Nat.div_eq_of_lt hlt]
  have hw2 : double.word neg (rungOf n) % double.signWeight = rungOf n := by
    rw [signWeight_double]
    cases neg
    · simp only [Format.word, Bool.false_eq_true, if_false]
      exact Nat.mod_eq_of_lt hlt
    · simp only [Format.word, if_true, signWeight_double]
      rw [Nat.add_mod_left]; exact Nat.mod_eq_of_lt hlt
  have hmod : rungOf n % 2 ^ 52 = n * 2 ^ (52 - n.log2) - 2 ^ 52 := by
    rw [hr, Nat.add_comm, Nat.add_mul_mod_self_right]
    exact Nat.mod_eq_of_lt hsub.1
  have hdiv : rungOf n / 2 ^ 52 = n.log2 + 1023 := by
    rw [hr, Nat.add_comm, Nat.add_mul_div_right _ _ (by decide), Nat.div_eq_of_lt hsub.1, Nat.zero_add]
  unfold Format.read
  simp only [hw1, hw2, binade_double, infRung_double, leastPlace_double, hmod, hdiv]
  have h1 : ¬ rungOf n < 2 ^ 52 := by
    rw [hr]; exact arith_ge (n * 2 ^ (52 - n.log2)) ((n.log2 + 1023) * 2 ^ 52) (Nat.mul_le_mul_right _ (by omega))
  have h2 : rungOf n < 2047 * 2 ^ 52 := hb.2
  rw [if_neg h1, if_pos h2, hsub.2]
  have hp : (-1074 : Int) + ((n.log2 + 1023 - 1 : Nat) : Int) = (n.log2 : Int) - 52 := by omega
  rw [hp]
  cases neg <;> rfl

/-- A datum that is a whole number. -/
def IsInt (d : Datum) (n : Int) : Prop := ∃ k : Nat, d = .number (decide (n < 0)) (n.natAbs * 2 ^ k) (-(k : Int))

set_option maxRecDepth 100000 in
theorem read_nearest (n : Int) (hn : n.natAbs < 2 ^ 53) : IsInt (double.read (FloatKind.f64.nearest n)) n := by
  have hnear : FloatKind.f64.nearest n = double.nearest (decide (n < 0)) n.natAbs 0 := rfl
  rw [hnear]
  by_cases h : n = 0
  · subst h
    exact ⟨1074, by decide +kernel⟩
  · have hne : n.natAbs ≠ 0 := by omega
    have hl : n.natAbs.log2 ≤ 52 := by
      have := (Nat.log2_lt hne (k := 53)).2 hn
      omega
    have := nearest_rep (decide (n < 0)) n.natAbs 0 hne hl
    simp only [Nat.pow_zero, Nat.mul_one, Int.ofNat_zero, Int.neg_zero] at this
    rw [this, read_word _ _ hne hl]
    refine ⟨52 - n.natAbs.log2, ?_⟩
    congr 1
    omega

theorem signed_shift (n : Int) (a : Nat) : signed (decide (n < 0)) (n.natAbs) a = n * 2 ^ a := by
  unfold signed
  rw [Nat.shiftLeft_eq]
  by_cases h : n < 0
  · simp only [h, decide_true, if_true]
    have : n = -(n.natAbs : Int) := by omega
    rw [Int.natCast_mul, Int.natCast_pow]
    conv => rhs; rw [this]
    rw [Int.neg_mul]; rfl
  · simp only [h, decide_false, Bool.false_eq_true, if_false]
    have : n = (n.natAbs : Int) := by omega
    rw [Int.natCast_mul, Int.natCast_pow]
    conv => rhs; rw [this]
    rfl
theorem signed_pow (n : Int) (k a : Nat) : signed (decide (n < 0)) (n.natAbs * 2 ^ k) a = n * 2 ^ (k + a) := by
  rw [← signed_shift]
  unfold signed
  rw [Nat.shiftLeft_eq, Nat.shiftLeft_eq, Nat.mul_assoc, ← Nat.pow_add]
theorem signed_not (b : Bool) (m a : Nat) : signed (!b) m a = - signed b m a := by
  cases b <;> simp [signed]

/-- Writing a whole number, however it is scaled. -/
theorem write_int (t : Int) (k : Nat) (s : Bool) (hs : t = 0 → s = false) (hs' : t ≠ 0 → s = decide (t < 0)) (hn : t.natAbs < 2 ^ 53) :
    double.write (.number s (t * 2 ^ k).natAbs (-(k : Int))) = FloatKind.f64.nearest t := by
  have hnear : FloatKind.f64.nearest t = double.nearest (decide (t < 0)) t.natAbs 0 := rfl
  rw [hnear]
  simp only [Format.write]
  by_cases h : t = 0
  · subst h
    rw [hs rfl]
    simp [nearest_zero]
  · rw [hs' h]
    have hne : t.natAbs ≠ 0 := by omega
    have hl : t.natAbs.log2 ≤ 52 := by
      have := (Nat.log2_lt hne (k := 53)).2 hn
      omega
    have h0 := nearest_rep (decide (t < 0)) t.natAbs 0 hne hl
    simp only [Nat.pow_zero, Nat.mul_one, Int.ofNat_zero, Int.neg_zero] at h0
    rw [h0, Int.natAbs_mul, Int.natAbs_pow]
    exact nearest_rep (decide (t < 0)) t.natAbs k hne hl

theorem min_neg (i j : Nat) : min (-(i : Int)) (-(j : Int)) = -((max i j : Nat) : Int) := by omega

theorem sum_int {x y : Datum} {m n : Int} (hx : IsInt x m) (hy : IsInt y n) : ∃ (K : Nat) (s : Bool), x.sum y = some (.number s ((m + n) * 2 ^ K).natAbs (-(K : Int))) ∧ ((m + n) = 0 → s = (decide (m < 0) && decide (n < 0))) ∧ ((m + n) ≠ 0 → s = decide (m + n < 0)) := by
  obtain ⟨i, rfl⟩ := hx
  obtain ⟨j, rfl⟩ := hy
  have hp : (0 : Int) < 2 ^ (max i j) := by have := Nat.two_pow_pos (max i j); exact_mod_cast this
  refine ⟨max i j, (if (m + n) * 2 ^ (max i j) = 0 then decide (m < 0) && decide (n < 0) else decide ((m + n) * 2 ^ (max i j) < 0)), ?_, ?_, ?_⟩
  · simp only [Datum.sum, min_neg]
    have e1 : (-(i : Int) - -((max i j : Nat) : Int)).toNat = max i j - i := by omega
    have e2 : (-(j : Int) - -((max i j : Nat) : Int)).toNat = max i j - j := by omega
    rw [e1, e2, signed_pow, signed_pow, show i + (max i j - i) = max i j by omega, show j + (max i j - j) = max i j by omega, ← Int.add_mul]
  · intro h0; rw [h0]; simp
  · intro h0
    have : (m + n) * 2 ^ (max i j) ≠ 0 := Int.mul_ne_zero h0 (by omega)
    rw [if_neg this]
    rcases Int.lt_or_lt_of_ne h0 with h | h
    · have := Int.mul_neg_of_neg_of_pos h hp
      simp [this, h]
    · have := Int.mul_pos h hp
      simp only [decide_eq_decide]
      omega

theorem opposite_int {y : Datum} {n : Int} (hy : IsInt y n) : ∃ j : Nat, y.opposite = .number (!decide (n < 0)) (n.natAbs * 2 ^ j) (-(j : Int)) := by
  obtain ⟨j, rfl⟩ := hy
  exact ⟨j, rfl⟩

theorem add_int {m n : Int} (hm : m.natAbs ≤ 2 ^ 51) (hn : n.natAbs ≤ 2 ^ 51) :
    FloatKind.f64.format.add (FloatKind.f64.nearest m) (FloatKind.f64.nearest n) = some (FloatKind.f64.nearest (m + n)) := by
  have hx := read_nearest m (by omega)
  have hy := read_nearest n (by omega)
  obtain ⟨K, s, h1, h2, h3⟩ := sum_int hx hy
  show (Datum.sum (double.read _) (double.read _)).map double.write = _
  rw [h1]
  simp only [Option.map_some]
  rw [write_int (m + n) K s (fun h => by rw [h2 h]; simp; omega) h3 (by omega)]

theorem sub_int {m n : Int} (hm : m.natAbs ≤ 2 ^ 51) (hn : n.natAbs ≤ 2 ^ 51) :
    FloatKind.f64.format.sub (FloatKind.f64.nearest m) (FloatKind.f64.nearest n) = some (FloatKind.f64.nearest (m - n)) := by
  have hx := read_nearest m (by omega)
  have hy := read_nearest n (by omega)
  show (Datum.sum (double.read _) (double.read _).opposite).map double.write = _
  obtain ⟨i, hi⟩ := hx
  obtain ⟨j, hj⟩ := opposite_int hy
  rw [hi, hj]
  have hp : (0 : Int) < 2 ^ (max i j) := by have := Nat.two_pow_pos (max i j); exact_mod_cast this
  simp only [Datum.sum, min_neg, Option.map_some]
  have e1 : (-(i : Int) - -((max i j : Nat) : Int)).toNat = max i j - i := by omega
  have e2 : (-(j : Int) - -((max i j : Nat) : Int)).toNat = max i j - j := by omega
  have et : signed (decide (m < 0)) (m.natAbs * 2 ^ i) (max i j - i) + signed (!decide (n < 0)) (n.natAbs * 2 ^ j) (max i j - j) = (m - n) * 2 ^ (max i j) := by
    rw [signed_not, signed_pow, signed_pow, show i + (max i j - i) = max i j by omega, show j + (max i j - j) = max i j by omega, Int.sub_mul]; omega
  rw [e1, e2, et]
  rw [write_int (m - n) (max i j) _ ?_ ?_ (by omega)]
  · intro h0
    rw [h0]
    simp
    omega
  · intro h0
    have hne : (m - n) * 2 ^ (max i j) ≠ 0 := Int.mul_ne_zero h0 (by omega)
    rw [if_neg hne]
    rcases Int.lt_or_lt_of_ne h0 with h | h
    · have := Int.mul_neg_of_neg_of_pos h hp
      simp [this, h]
    · have := Int.mul_pos h hp
      simp only [decide_eq_decide]
      omega

theorem compare_mul (m n : Int) (p : Int) (hp : 0 < p) : compare (m * p) (n * p) = compare m n := by
  rcases Int.lt_trichotomy m n with h | h | h
  · have := Int.mul_lt_mul_of_pos_right h hp
    rw [Int.compare_eq_lt.2 h, Int.compare_eq_lt.2 this]
  · subst h; simp
  · have := Int.mul_lt_mul_of_pos_right h hp
    rw [Int.compare_eq_gt.2 h, Int.compare_eq_gt.2 this]

theorem order_int {m n : Int} (hm : m.natAbs ≤ 2 ^ 51) (hn : n.natAbs ≤ 2 ^ 51) :
    FloatKind.f64.format.order (FloatKind.f64.nearest m) (FloatKind.f64.nearest n) = some (compare m n) := by
  obtain ⟨i, hi⟩ := read_nearest m (by omega)
  obtain ⟨j, hj⟩ := read_nearest n (by omega)
  show Datum.order (double.read _) (double.read _) = _
  rw [hi, hj]
  have hp : (0 : Int) < 2 ^ (max i j) := by have := Nat.two_pow_pos (max i j); exact_mod_cast this
  simp only [Datum.order, min_neg]
  have e1 : (-(i : Int) - -((max i j : Nat) : Int)).toNat = max i j - i := by omega
  have e2 : (-(j : Int) - -((max i j : Nat) : Int)).toNat = max i j - j := by omega
  rw [e1, e2, signed_pow, signed_pow, show i + (max i j - i) = max i j by omega, show j + (max i j - j) = max i j by omega, compare_mul _ _ _ hp]

theorem toInt_int {n : Int} (hn : n.natAbs ≤ 2 ^ 51) : (FloatKind.f64.decode (FloatKind.f64.nearest n)).toInt .zero = some n := by
  obtain ⟨i, hi⟩ := read_nearest n (by omega)
  show Datum.toInt .zero (double.read _) = _
  rw [hi]
  simp only [Datum.toInt, Datum.integral]
  have e1 : (-(i : Int)).toNat = 0 := by omega
  have e2 : (- -(i : Int)).toNat = i := by omega
  rw [e1, e2, Nat.shiftLeft_zero, cut_exact, signed_shift]
  simp
end Go.Ab
