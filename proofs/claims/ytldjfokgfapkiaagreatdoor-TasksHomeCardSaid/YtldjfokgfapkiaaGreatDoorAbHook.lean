/-
  WHAT A HOOK TELLS: Trunc of a whole number.
-/
import Derived.Test.YtldjfokgfapkiaaGreatDoorAbThm
namespace Go.Ab
open Ieee

theorem integral_int {n : Int} (hn : n.natAbs ≤ 2 ^ 51) : FloatKind.f64.encode ((FloatKind.f64.decode (FloatKind.f64.nearest n)).integral .zero) = FloatKind.f64.nearest n := by
  obtain ⟨i, hi⟩ := read_nearest n (by omega)
  show double.write (Datum.integral .zero (double.read _)) = _
  rw [hi]
  simp only [Datum.integral]
  have e1 : (-(i : Int)).toNat = 0 := by omega
  have e2 : (- -(i : Int)).toNat = i := by omega
  rw [e1, e2, Nat.shiftLeft_zero, cut_exact]
  have := write_int n 0 (decide (n < 0)) (fun h => by subst h; rfl) (fun _ => rfl) (by omega)
  simpa using this

theorem decode_int {n : Int} (hn : n.natAbs ≤ 2 ^ 51) : ∃ b m p, FloatKind.f64.decode (FloatKind.f64.nearest n) = .number b m p := by
  obtain ⟨i, hi⟩ := read_nearest n (by omega)
  exact ⟨_, _, _, hi⟩

theorem toIntegral_num (nm : String) (way : Toward) (x : Nat) (b : Bool) (m : Nat) (p : Int) (h : FloatKind.f64.decode x = .number b m p) :
    Extern.MathFloor.toIntegral nm way #[.float .f64 x] = pure (.float .f64 (FloatKind.f64.encode (Datum.integral way (.number b m p)))) := by
  delta Extern.MathFloor.toIntegral
  conv => lhs; whnf
  rw [h]

/-- A function that is Trunc of the machine. -/
structure TruncAt (P : Program) (f : FuncId) : Prop where
  is : ∃ fn, P.funcs[f]? = some fn ∧ fn.body = none ∧ (fn.name == "runtime.NumGoroutine") = false ∧ (Extern.findNext fn).isNone = true ∧ Extern.find fn = some (Extern.MathFloor.toIntegral "math.archTrunc" .zero)

def hTrunc (en : Env) (f0 : Nat) : Hook := fun f args =>
  match Nat.beq f f0 with
  | false => none
  | true => match args with
    | [.float .f64 f] => match sfInt f with
      | some e => match small en e with
        | true => some (.float .f64 f)
        | false => none
      | none => none
    | _ => none

theorem hTrunc_ok {P : Program} {ρ : Nat → Int} {en : Env} {f0 : Nat} (he : EnvOk ρ en) (h0 : TruncAt P f0) : HookOk P ρ (hTrunc en f0) := by
  intro f args r h φ cargs w hargs
  unfold hTrunc at h
  split at h
  · simp at h
  · rename_i hf
    have hf := Nat.eq_of_beq_eq_true hf
    subst hf
    split at h
    · rename_i sf
      split at h
      rotate_left
      · simp at h
      rename_i e hsf
      split at h
      · rename_i hs
        simp only [Option.some.injEq] at h; subst h
        left
        obtain ⟨fn, h1, h2, h3, h4, h5⟩ := h0.is
        have hsm := small_ok he hs
        have h51 : (2 : Nat) ^ 50 ≤ 2 ^ 51 := by decide
        obtain ⟨u, rfl, hu⟩ : ∃ u, cargs = #[u] ∧ VRel ρ φ (.float .f64 sf) u := by
          obtain ⟨l⟩ := cargs
          cases hargs with
          | cons _ u _ us hu h' => cases h' with
            | nil => exact ⟨u, rfl, hu⟩
        cases hu with
        | float _ _ n hn =>
          rw [sfInt_ok hsf] at hn
          subst hn
          have hnx : Extern.findNext fn = none := by simpa using h4
          obtain ⟨b, m, p, hd⟩ := decode_int (n := e.val ρ) (by omega)
          have hi := integral_int (n := e.val ρ) (by omega)
          refine ⟨.float .f64 (FloatKind.f64.nearest (e.val ρ)), ?_, .float _ _ _ (sfInt_ok hsf)⟩
          rw [hd] at hi
          have hbn : fn.body.isNone = true := by rw [h2]; rfl
          simp only [callFunc, Sem.run_bind, run_program, Result.andThen_ok, h1, h3, hbn, Bool.false_eq_true, if_false, if_true, hnx, h5, mark, toIntegral_num _ _ _ _ _ _ hd, hi, Sem.run_pure]
          rfl
      · simp at h
    · simp at h
end Go.Ab
