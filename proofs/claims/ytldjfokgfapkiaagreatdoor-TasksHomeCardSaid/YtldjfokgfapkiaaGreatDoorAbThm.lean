/-
  THE LAST WORD: what the reckoning says of a function, the model's own run bears out.
-/
import Derived.Test.YtldjfokgfapkiaaGreatDoorAbFun
import Derived.Below
namespace Go.Ab
open Go.RowKit (Below)

theorem uni_fail {α : Type} : Uni (EM.fail : EM α) := fun _ _ _ h _ => (fail_spec h).elim

section
variable {P : Program} {B : Nat} {ρ : Nat → Int} {en : Env} {G : Nat} {hook : Hook}

theorem fun_ok (he : EnvOk ρ en) (hhook : HookOk P ρ hook) (hm : P.follows .mixedOrders = true) {L : Nat} : ∀ D, CallOk P B ρ G (aFun P G en hook L D)
  | 0 => fun f args s v s' φ w cargs h _ _ _ _ _ => by rw [aFun_zero] at h; exact (fail_spec h).elim
  | D + 1 => fun f args s v s' φ w cargs h hgd hargs hG hH hf => by
    rw [aFun_succ] at h
    exact body_ok he hhook (fun_ok he hhook hm D) (fun f args => uni_fun D f args) hm h hgd hargs hG hH hf

/-- Nothing below B is turned, if nothing below B may be written. -/
theorem below_of_post {φ φ' : PM} {s s' : St} {w w' : World} (h : Post B ρ φ φ' s s' w w') (hH : HRel B ρ φ s.H.get w) : Below B w w' :=
  ⟨h.fr.os, h.fr.tape, h.fr.output, h.fr.size, fun k hk => by
    have hb := hH.base
    refine h.fr.block k (by omega) ?_
    rintro ⟨l, o, N, h1, h2, h3, h4⟩
    obtain ⟨b, N', x, g1, g2, g3, g4⟩ := hH.at_ l o h1 h2
    rw [h4] at g1
    simp only [Option.some.injEq, Prod.mk.injEq] at g1
    obtain ⟨rfl, rfl⟩ := g1
    have := g4 h3
    omega⟩

/-- A call that the reckoning has run. -/
theorem calls_of_reckon (he : EnvOk ρ en) (hhook : HookOk P ρ hook) (hm : P.follows .mixedOrders = true) {L D f : Nat} {args : List AV} {s s' : St} {v : AV} {φ : PM} {w : World} {cargs : Array Value}
    (h : aFun P G en hook L D f args s = some (v, s')) (hgd : Good s) (hargs : VRels ρ φ args cargs.toList) (hG : GOk G φ) (hH : HRel B ρ φ s.H.get w) (hf : Fresh φ s.n s'.n) :
    Calls P f cargs w fun e w' => ∃ φ' u, e = .returned u ∧ VRel ρ φ' v u ∧ Post B ρ φ φ' s s' w w' ∧ Below B w w' :=
  (fun_ok he hhook hm D f args s v s' φ w cargs h hgd hargs hG hH hf).mono fun _ _ ⟨φ', u, h1, h2, h3⟩ => ⟨φ', u, h1, h2, h3, below_of_post h3 hH⟩

theorem noHook_ok : HookOk P ρ (fun _ _ => none) := fun _ _ _ h => by simp at h
end
end Go.Ab
