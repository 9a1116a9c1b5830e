/-
  NUMBERS OF TWO HALVES: what masks, shifts and turnings of kinds make of them.
-/
import Derived.Test.YtldjfokgfapkiaaGreatDoorAbSym
namespace Go.Ab
section
variable {P : Program} {B : Nat} {ρ : Nat → Int} {φ : PM} {en : Env}

theorem lo32_ok (a : SI) : (lo32 a).val ρ % 4294967296 = a.val ρ % 4294967296 := by
  unfold lo32
  split <;> simp only [SI.val, SOp.val] <;> omega
theorem isC_ok {n : Int} {b : SI} (h : isC n b = true) : b = .c n := by
  unfold isC at h
  split at h
  · simp at h; rw [h]
  · simp at h
theorem isU64_ok {k : IntKind} (h : isU64 k = true) : k = .u64 := by cases k <;> simp [isU64] at h ⊢
theorem isI64_ok {k : IntKind} (h : isI64 k = true) : k = .i64 := by cases k <;> simp [isI64] at h ⊢
theorem two64 : (2 ^ 64 : Int) = 18446744073709551616 := by decide
theorem wrap_u64 (n : Int) : IntKind.u64.wrap n = n % 18446744073709551616 := by
  rw [← two64]; rfl
theorem ofInt_nat (n : Int) : (BitVec.ofInt 64 n).toNat = (n % 18446744073709551616).toNat := by
  rw [BitVec.toNat_ofInt, ← two64]; rfl
theorem mod_mod_lo (x : Int) : (((x % 18446744073709551616).toNat % 2 ^ 32 : Nat) : Int) % 18446744073709551616 = x % 4294967296 := by omega
theorem or_arith (x y : Int) : ((2 ^ 32 * (y % 4294967296).toNat + (x % 4294967296).toNat : Nat) : Int) % 18446744073709551616 = x % 4294967296 + 4294967296 * (y % 4294967296) := by omega
theorem or_a1 (x : Int) : (x % 4294967296 % 18446744073709551616).toNat = (x % 4294967296).toNat := by omega
theorem or_a2 (y : Int) : (4294967296 * (y % 4294967296) % 18446744073709551616).toNat = 2 ^ 32 * (y % 4294967296).toNat := by omega
theorem or_a3 (x : Int) : (x % 4294967296).toNat < 2 ^ 32 := by omega
theorem zero_arith (x : Int) (h1 : 0 ≤ x) (h2 : x ≤ 18446744073709551615) : ((x % 18446744073709551616).toNat : Int) % 18446744073709551616 = x := by omega
theorem shl_arith (x y : Int) (h : y % 4294967296 = x % 4294967296) : x * 4294967296 % 18446744073709551616 = 0 % 4294967296 + 4294967296 * (y % 4294967296) := by omega
theorem shr_arith (x y : Int) : (x % 4294967296 + 4294967296 * y) / 4294967296 = y := by omega
theorem and_low (x : Int) : IntKind.u64.wrap ((BitVec.ofInt 64 x &&& BitVec.ofInt 64 4294967295).toNat : Int) = x % 4294967296 := by
  have e : (BitVec.ofInt 64 4294967295).toNat = 2 ^ 32 - 1 := by decide
  rw [wrap_u64, BitVec.toNat_and, ofInt_nat, e, Nat.and_two_pow_sub_one_eq_mod]
  exact mod_mod_lo x
theorem or_halves (x y : Int) : IntKind.u64.wrap ((BitVec.ofInt 64 (x % 4294967296) ||| BitVec.ofInt 64 (4294967296 * (y % 4294967296))).toNat : Int) = x % 4294967296 + 4294967296 * (y % 4294967296) := by
  rw [wrap_u64, BitVec.toNat_or, ofInt_nat, ofInt_nat, or_a1, or_a2, Nat.or_comm, ← Nat.two_pow_add_eq_or_of_lt (or_a3 x)]
  exact or_arith x y
theorem or_zero (x : Int) (h : 0 ≤ x ∧ x ≤ 18446744073709551615) : IntKind.u64.wrap ((BitVec.ofInt 64 0 ||| BitVec.ofInt 64 x).toNat : Int) = x := by
  have e0 : BitVec.ofInt 64 0 = 0#64 := by decide
  rw [wrap_u64, e0, BitVec.zero_or, ofInt_nat]
  exact zero_arith x h.1 h.2

theorem pk_r0 (x : Int) : x % 4294967296 + 4294967296 * (0 % 4294967296) = x % 4294967296 := by omega
theorem pk_l0 (y : Int) : 0 % 4294967296 + 4294967296 * (y % 4294967296) = 4294967296 * (y % 4294967296) := by omega
theorem pk_cong {x x' : Int} (h : x' % 4294967296 = x % 4294967296) : x' % 4294967296 + 4294967296 * (0 % 4294967296) = x % 4294967296 := by omega
theorem val_pk_r0 (x : SI) : (SI.bop .pk x (.c 0)).val ρ = x.val ρ % 4294967296 := pk_r0 _
theorem val_pk_l0 (y : SI) : (SI.bop .pk (.c 0) y).val ρ = 4294967296 * (y.val ρ % 4294967296) := pk_l0 _
theorem val_pk (x y : SI) : (SI.bop .pk x y).val ρ = x.val ρ % 4294967296 + 4294967296 * (y.val ρ % 4294967296) := rfl

theorem orBits_ok (he : EnvOk ρ en) {a b e : SI} (h : orBits en a b = some e) :
    IntKind.u64.wrap ((BitVec.ofInt 64 (a.val ρ) ||| BitVec.ofInt 64 (b.val ρ)).toNat : Int) = e.val ρ := by
  unfold orBits at h
  split at h
  · split at h
    · rename_i hc
      simp only [Bool.and_eq_true] at hc
      rw [isC_ok hc.1, isC_ok hc.2]
      simp only [Option.some.injEq] at h; subst h
      rw [val_pk_r0, val_pk_l0, val_pk]
      exact or_halves _ _
    · split at h
      · rename_i hc
        simp only [Bool.and_eq_true] at hc
        rw [isC_ok hc.1, isC_ok hc.2]
        simp only [Option.some.injEq] at h; subst h
        rw [val_pk_r0, val_pk_l0, val_pk, BitVec.or_comm]
        exact or_halves _ _
      · simp at h
  · split at h
    · rename_i n b' hc
      simp only [Bool.and_eq_true, decide_eq_true_eq] at hc
      obtain ⟨h0, hr⟩ := hc
      simp only [Option.some.injEq] at h; subst h
      have := inR_ok he hr
      have e0 : (SI.c n).val ρ = 0 := h0
      rw [e0]
      have m0 : IntKind.u64.min = 0 := rfl
      have m1 : IntKind.u64.max = 18446744073709551615 := rfl
      rw [m0, m1] at this
      exact or_zero _ this
    · simp at h
  · simp at h

section
variable {t : Nat}
theorem run_and (x : Int) (w : World) : (binOp .and t (.int .u64 x) (.int .u64 4294967295)).run P w = .ok (.int .u64 (x % 4294967296)) w := by
  rw [← and_low x]; rfl
theorem run_andNot (x : Int) (w : World) : (binOp .andNot t (.int .u64 x) (.int .u64 18446744073709551615)).run P w = .ok (.int .u64 0) w := by
  have e0 : ~~~(BitVec.ofInt 64 18446744073709551615) = 0#64 := by decide
  have e1 : IntKind.u64.wrap ((BitVec.ofInt 64 x &&& ~~~(BitVec.ofInt 64 18446744073709551615)).toNat : Int) = 0 := by rw [e0, BitVec.and_zero]; decide
  exact congrArg (fun z => Result.ok (Value.int IntKind.u64 z) w) e1
theorem run_andNotHi (x : Int) (w : World) : (binOp .andNot t (.int .u64 x) (.int .u64 18446744069414584320)).run P w = .ok (.int .u64 (x % 4294967296)) w := by
  have e0 : ~~~(BitVec.ofInt 64 18446744069414584320) = BitVec.ofInt 64 4294967295 := by decide
  have e1 : IntKind.u64.wrap ((BitVec.ofInt 64 x &&& ~~~(BitVec.ofInt 64 18446744069414584320)).toNat : Int) = x % 4294967296 := by rw [e0, and_low]
  exact congrArg (fun z => Result.ok (Value.int IntKind.u64 z) w) e1
theorem run_or (x y z : Int) (h : IntKind.u64.wrap ((BitVec.ofInt 64 x ||| BitVec.ofInt 64 y).toNat : Int) = z) (w : World) :
    (binOp .or t (.int .u64 x) (.int .u64 y)).run P w = .ok (.int .u64 z) w := congrArg (fun z => Result.ok (Value.int IntKind.u64 z) w) h
theorem run_shl32 (k : IntKind) (x : Int) (w : World) : (binOp .shl t (.int .u64 x) (.int k 32)).run P w = .ok (.int .u64 (4294967296 * (x % 4294967296))) w := by
  have e1 : IntKind.u64.wrap (x * 2 ^ 32) = 4294967296 * (x % 4294967296) := by
    have : (2 ^ 32 : Int) = 4294967296 := by decide
    rw [wrap_u64, this, shl_arith x x rfl, pk_l0]
  exact congrArg (fun z => Result.ok (Value.int IntKind.u64 z) w) e1
theorem run_shl0 (k : IntKind) (x : Int) (h : IntKind.u64.wrap x = x) (w : World) : (binOp .shl t (.int .u64 x) (.int k 0)).run P w = .ok (.int .u64 x) w := by
  have e1 : IntKind.u64.wrap (x * 2 ^ 0) = x := by rw [Int.pow_zero, Int.mul_one, h]
  exact congrArg (fun z => Result.ok (Value.int IntKind.u64 z) w) e1
theorem run_shr32 (k : IntKind) (x y : Int) (w : World) : (binOp .shr t (.int .i64 (x % 4294967296 + 4294967296 * y)) (.int k 32)).run P w = .ok (.int .i64 y) w := by
  have e1 : (x % 4294967296 + 4294967296 * y).fdiv (2 ^ 32) = y := by
    have : (2 ^ 32 : Int) = 4294967296 := by decide
    rw [this, Int.fdiv_eq_ediv_of_nonneg _ (by decide), shr_arith]
  exact congrArg (fun z => Result.ok (Value.int IntKind.i64 z) w) e1
end

theorem aBits_ok (he : EnvOk ρ en) {op : BinOp} {k k' : IntKind} {a b e : SI} {t : Nat} (h : aBits en op k a k' b = some e) :
    ∀ w, (binOp op t (.int k (a.val ρ)) (.int k' (b.val ρ))).run P w = .ok (.int k (e.val ρ)) w := by
  intro w
  unfold aBits at h
  split at h
  · split at h
    · rename_i hc
      simp only [Bool.and_eq_true] at hc
      obtain rfl := isU64_ok hc.1
      obtain rfl := isU64_ok hc.2.1
      rw [isC_ok hc.2.2]
      simp only [Option.some.injEq] at h; subst h
      rw [val_pk_r0, lo32_ok]
      exact run_and _ w
    · simp at h
  · split at h
    · simp at h
    · rename_i hk
      simp only [Bool.and_eq_true] at hk
      obtain rfl := isU64_ok hk.1
      obtain rfl := isU64_ok hk.2
      split at h
      · rename_i hc
        rw [isC_ok hc]
        simp only [Option.some.injEq] at h; subst h
        exact run_andNot _ w
      · split at h
        · rename_i hc
          rw [isC_ok hc]
          simp only [Option.some.injEq] at h; subst h
          rw [val_pk_r0, lo32_ok]
          exact run_andNotHi _ w
        · simp at h
  · split at h
    · rename_i hk
      simp only [Bool.and_eq_true] at hk
      obtain rfl := isU64_ok hk.1
      obtain rfl := isU64_ok hk.2
      exact run_or _ _ _ (orBits_ok he h) w
    · simp at h
  · split at h
    · simp at h
    · rename_i hk
      obtain rfl := isU64_ok hk
      split at h
      · rename_i hc
        rw [isC_ok hc]
        simp only [Option.some.injEq] at h; subst h
        rw [val_pk_l0, lo32_ok]
        exact run_shl32 _ _ w
      · split at h
        · rename_i hc
          simp only [Bool.and_eq_true] at hc
          rw [isC_ok hc.1]
          simp only [Option.some.injEq] at h; subst h
          exact run_shl0 _ _ (wrap_in (inR_ok he hc.2)) w
        · simp at h
  · split at h
    · simp at h
    · rename_i hk
      simp only [Bool.and_eq_true] at hk
      obtain rfl := isI64_ok hk.1
      rw [isC_ok hk.2]
      split at h
      · simp only [Option.some.injEq] at h; subst h
        exact run_shr32 _ _ _ w
      · simp at h
  · simp at h

theorem u32_wrap (n : Int) : IntKind.u32.wrap n = n % 4294967296 := by
  have : (2 ^ 32 : Int) = 4294967296 := by decide
  rw [← this]; rfl
theorem i64_wrap_pk (x y : Int) (h1 : -2147483648 ≤ y) (h2 : y ≤ 2147483647) : IntKind.i64.wrap (x % 4294967296 + 4294967296 * (y % 4294967296)) = x % 4294967296 + 4294967296 * y := by
  have a1 : (2 ^ IntKind.i64.bits : Int) = 18446744073709551616 := by decide
  have a2 : (2 ^ (IntKind.i64.bits - 1) : Int) = 9223372036854775808 := by decide
  have a3 : IntKind.i64.signed = true := rfl
  unfold IntKind.wrap
  simp only [a1, a2, a3, Bool.true_and]
  split
  · rename_i hh; simp only [decide_eq_true_eq, ge_iff_le] at hh; omega
  · rename_i hh; simp only [decide_eq_true_eq, ge_iff_le] at hh; omega

theorem aWrap_ok (he : EnvOk ρ en) {k : IntKind} {e : SI} {v : AV} (h : aWrap en k e = some v) : VRel ρ φ v (.int k (k.wrap (e.val ρ))) := by
  unfold aWrap at h
  split at h
  · simp only [Option.some.injEq] at h; subst h
    exact .int _ _ _ (wrap_u64 _).symm
  · simp only [Option.some.injEq] at h; subst h
    refine .int _ _ _ ?_
    rw [val_pk_r0, lo32_ok, u32_wrap]
  · split at h
    · split at h
      · rename_i hr
        simp only [Option.some.injEq] at h; subst h
        have := inR_ok he hr
        have m0 : IntKind.i32.min = -2147483648 := rfl
        have m1 : IntKind.i32.max = 2147483647 := rfl
        rw [m0, m1] at this
        refine .int _ _ _ ?_
        rw [val_pk, i64_wrap_pk _ _ this.1 this.2]
        rfl
      · simp at h
    · simp at h
  · simp at h
end
end Go.Ab
