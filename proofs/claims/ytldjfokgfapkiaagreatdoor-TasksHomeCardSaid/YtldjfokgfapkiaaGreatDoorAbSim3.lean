/-
  EACH OPERATION OF THE RECKONING is one of the model's: slice expressions, fields, elements.
-/
import Derived.Test.YtldjfokgfapkiaaGreatDoorAbSim2
namespace Go.Ab

section
variable {P : Program} {B : Nat} {ρ : Nat → Int} {φ : PM} {G : Nat} {A : AAct} {a : Act}

theorem natOf_rel {v : AV} {u : Value} {n : Nat} (hv : VRel ρ φ v u) (h : natOf v = some n) : ∃ k, u = .int k (n : Int) := by
  unfold natOf at h
  split at h
  · rename_i k m
    simp only [Option.some.injEq] at h
    subst h
    cases hv with
    | int _ _ _ hx => simp only [SI.val] at hx; subst hx; exact ⟨k, rfl⟩
  · simp at h

theorem bound_rel {x : Operand} {d n : Nat} (h : aBound G A d (some x) = some n) (hop : OpR ρ φ G A a x) : ∃ k, a.eval x = .int k (n : Int) := by
  simp only [aBound] at h
  split at h
  · rename_i k m hv
    simp only [Option.some.injEq] at h
    subst h
    have := hop _ hv
    generalize a.eval x = u at this
    cases this with
    | int _ _ _ hx => simp only [SI.val] at hx; subst hx; exact ⟨k, rfl⟩
  · simp at h

theorem sliceBound_run {k : IntKind} {n y : Nat} {code : BoundsCode} (h : n ≤ y) (w : World) : (Instr.sliceBound (.int k (n : Int)) y code).run P w = .ok n w := by
  simp only [Instr.sliceBound, Sem.run_bind, asIntOf, Sem.run_pure, Result.andThen_ok]
  rw [if_pos (by omega)]
  simp

/-- The three bounds of a slice expression. -/
theorem sliceBounds_run {len cap m h b : Nat} {lo hi mx : Option Operand} (hm : aBound G A cap mx = some m) (hh : aBound G A len hi = some h) (hb : aBound G A 0 lo = some b)
    (h1 : b ≤ h) (h2 : h ≤ m) (h3 : m ≤ cap) (h4 : (mx.isNone || hi.isSome) = true)
    (hop : ∀ x, lo = some x ∨ hi = some x ∨ mx = some x → OpR ρ φ G A a x) (w : World) :
    (Instr.sliceBounds true len cap (lo.map a.eval) (hi.map a.eval) (mx.map a.eval)).run P w = .ok (b, h, m) w := by
  cases mx with
  | none =>
    simp only [aBound, Option.some.injEq] at hm
    subst hm
    cases hi with
    | none =>
      simp only [aBound, Option.some.injEq] at hh
      subst hh
      cases lo with
      | none => simp only [aBound, Option.some.injEq] at hb; subst hb; simp [Instr.sliceBounds]
      | some x => obtain ⟨k, e⟩ := bound_rel hb (hop x (.inl rfl)); simp [Instr.sliceBounds, e, sliceBound_run h1]
    | some y =>
      obtain ⟨k', e'⟩ := bound_rel hh (hop y (.inr (.inl rfl)))
      cases lo with
      | none => simp only [aBound, Option.some.injEq] at hb; subst hb; simp [Instr.sliceBounds, e', sliceBound_run h2]
      | some x => obtain ⟨k, e⟩ := bound_rel hb (hop x (.inl rfl)); simp [Instr.sliceBounds, e, e', sliceBound_run h1, sliceBound_run h2]
  | some z =>
    obtain ⟨k2, e2⟩ := bound_rel hm (hop z (.inr (.inr rfl)))
    cases hi with
    | none => simp at h4
    | some y =>
      obtain ⟨k', e'⟩ := bound_rel hh (hop y (.inr (.inl rfl)))
      cases lo with
      | none => simp only [aBound, Option.some.injEq] at hb; subst hb; simp [Instr.sliceBounds, e', e2, sliceBound_run h2, sliceBound_run h3]
      | some x => obtain ⟨k, e⟩ := bound_rel hb (hop x (.inl rfl)); simp [Instr.sliceBounds, e, e', e2, sliceBound_run h1, sliceBound_run h2, sliceBound_run h3]

/-- The bounds of one whose capacity is not known. -/
theorem sliceBounds_run2 {len c h b : Nat} {lo hi : Option Operand} (hh : aBound G A len hi = some h) (hb : aBound G A 0 lo = some b)
    (h1 : b ≤ h) (h2 : h ≤ len) (h3 : len ≤ c) (hop : ∀ x, lo = some x ∨ hi = some x → OpR ρ φ G A a x) (w : World) :
    (Instr.sliceBounds true len c (lo.map a.eval) (hi.map a.eval) none).run P w = .ok (b, h, c) w :=
  sliceBounds_run (φ := φ) (ρ := ρ) (G := G) (A := A) (mx := none) rfl hh hb h1 (by omega) (Nat.le_refl _) rfl (fun x hx => hop x (by simpa using hx)) w

theorem EMpure_sim {v : AV} {sem : Sem Value} {u : Value} (hr : ∀ w, sem.run P w = .ok u w) (hv : VRel ρ φ v u) : SimV P B ρ φ (EM.pure v) sem := by
  intro s v' s' w hm hH _
  obtain ⟨rfl, rfl⟩ := pure_spec hm
  exact ⟨φ, u, w, hr w, hv, Post.same hH rfl rfl (Fr.refl _ _)⟩

theorem addr_add (b off n : Nat) : Addr.add ⟨b, off, none⟩ n = ⟨b, off + n, none⟩ := by unfold Addr.add; split <;> simp_all

theorem slice_sim {t : Nat} {x : Operand} {lo hi mx : Option Operand} (hop : OpR ρ φ G A a x) (hops : ∀ y, lo = some y ∨ hi = some y ∨ mx = some y → OpR ρ φ G A a y) :
    SimV P B ρ φ (aSlice P G A t x lo hi mx) (Instr.sliceAt t (a.eval x) (lo.map a.eval) (hi.map a.eval) (mx.map a.eval)) := by
  unfold aSlice
  split
  · rename_i l off len cap el hv hel
    have hu := elemT_spec hel
    have hr := hop _ hv
    generalize a.eval x = u at hr
    cases hr with
    | slice _ _ _ _ b N hφ =>
      split
      · rename_i n m h bb hn hm hh hb
        cases hc : (Nat.ble bb h && (Nat.ble h m && (Nat.ble m cap && (mx.isNone || hi.isSome))))
        · exact SimV.fail
        · dsimp only
          simp only [Bool.and_eq_true] at hc
          have e1 := Nat.le_of_ble_eq_true hc.1
          have e2 := Nat.le_of_ble_eq_true hc.2.1
          have e3 := Nat.le_of_ble_eq_true hc.2.2.1
          have hrun := fun w => sliceBounds_run (P := P) hm hh hb e1 e2 e3 hc.2.2.2 hops w
          cases hmb : Nat.beq m bb
          · dsimp only
            have hne : m ≠ bb := by rintro rfl; simp at hmb
            refine EMpure_sim (u := .slice (some ⟨b, off + bb * n, none⟩) (h - bb) (m - bb)) (fun w => ?_) (.slice _ _ _ _ b N hφ)
            simp only [Instr.sliceAt, Sem.run_bind, under_run hu, Result.andThen_ok, Instr.slice, hrun w, szOf_run hn, Sem.run_pure]
            rw [if_neg hne]
            simp [addr_add]
          · dsimp only
            have he : m = bb := Nat.eq_of_beq_eq_true hmb
            refine EMpure_sim (u := .slice (some ⟨b, off, none⟩) (h - bb) (m - bb)) (fun w => ?_) (.slice _ _ _ _ b N hφ)
            simp only [Instr.sliceAt, Sem.run_bind, under_run hu, Result.andThen_ok, Instr.slice, hrun w, szOf_run hn, Sem.run_pure]
            rw [if_pos he]
      · exact SimV.fail
  · rename_i l off len sz el hv hel
    have hu := elemT_spec hel
    have hr := hop _ hv
    generalize a.eval x = u at hr
    cases hr with
    | gslice _ _ _ _ b N c hφ q1 q2 q3 =>
      split
      · rename_i n h bb hn hh hb
        cases hc : (Nat.beq n sz && (Nat.ble bb h && (Nat.ble h len && (Nat.beq bb 0 || Nat.blt bb len))))
        · exact SimV.fail
        · dsimp only
          simp only [Bool.and_eq_true, Bool.or_eq_true] at hc
          have e0 := Nat.eq_of_beq_eq_true hc.1
          have e1 := Nat.le_of_ble_eq_true hc.2.1
          have e2 := Nat.le_of_ble_eq_true hc.2.2.1
          subst e0
          have e3 : bb = 0 ∨ bb < len := hc.2.2.2.imp Nat.eq_of_beq_eq_true (fun h => Nat.le_of_ble_eq_true h)
          have hrun := fun w => sliceBounds_run2 (P := P) hh hb e1 e2 q2 (fun y hy => hops y (by rcases hy with h | h; exact .inl h; exact .inr (.inl h))) w
          refine EMpure_sim (u := .slice (some ⟨b, off + bb * n, none⟩) (h - bb) (c - bb)) (fun w => ?_) (.gslice _ _ _ _ b N (c - bb) hφ ?_ (by omega) q3)
          · simp only [Instr.sliceAt, Sem.run_bind, under_run hu, Result.andThen_ok, Instr.slice, Option.map_none, hrun w, szOf_run hn, Sem.run_pure]
            split
            · rename_i hcb
              have : bb = 0 := by omega
              subst this
              simp
            · simp [addr_add]
          · have hbc : bb ≤ c := by omega
            have : bb * n + (c - bb) * n = c * n := by rw [← Nat.add_mul]; congr 1; omega
            omega
      · exact SimV.fail
  · exact SimV.fail

theorem fieldAddr_val {t f : Nat} {x : AV} {u : Value} {v : AV} (hx : VRel ρ φ x u) (h : aFieldAddr P t x f = some v) :
    ∃ r, (∀ w, (Instr.fieldAt t u f).run P w = .ok r w) ∧ VRel ρ φ v r := by
  unfold aFieldAddr at h
  split at h
  · rename_i fs l off hu
    cases hx with
    | ptr _ _ b N hφ =>
      split at h
      · rename_i fd hfd
        split at h
        · rename_i n hn
          simp only [Option.some.injEq] at h
          subst h
          refine ⟨_, fun w => ?_, .ptr _ _ b N hφ⟩
          simp only [Instr.fieldAt, Sem.run_bind, under_run hu, Result.andThen_ok, hfd, Instr.sureAddr, Sem.run_pure, fieldPlace, szOf_run hn, addr_add]
          rw [if_neg (by omega)]
          simp
        · simp at h
      · simp at h
  · simp at h

theorem field_val {t f : Nat} {x : AV} {u : Value} {v : AV} (hx : VRel ρ φ x u) (h : aField P t x f = some v) :
    ∃ r, (∀ w, (Instr.field t u f).run P w = .ok r w) ∧ VRel ρ φ v r := by
  unfold aField at h
  split at h
  · rename_i fs cs hu
    cases hx with
    | agg _ us hr =>
      split at h
      · rename_i fd hfd
        have hl := hr.length
        simp only [Array.length_toList] at hl
        obtain ⟨r, hp, hv⟩ := aPart_val (P := P) (C := us) (by rw [← hl, ← Array.length_toList, List.take_length]; exact hr) (by omega) h
        refine ⟨r, fun w => ?_, hv⟩
        simp only [Instr.field, Sem.run_bind, under_run hu, Result.andThen_ok, hfd, asAgg, Sem.run_pure, part_run hp]
      · simp at h
  · simp at h

theorem indexAddr_val {t : Nat} {x ix : AV} {u j : Value} {v : AV} (hx : VRel ρ φ x u) (hi : VRel ρ φ ix j) (h : aIndexAddr P t x ix = some v) :
    ∃ r, (∀ w, (Instr.indexAt t u j).run P w = .ok r w) ∧ VRel ρ φ v r := by
  unfold aIndexAddr at h
  split at h
  · rename_i el l off len cap i hu hn
    obtain ⟨k, rfl⟩ := natOf_rel hi hn
    cases hx with
    | slice _ _ _ _ b N hφ =>
      split at h
      · rename_i n hsz hlt
        have hlt : i < len := Nat.le_of_ble_eq_true hlt
        simp only [Option.some.injEq] at h
        subst h
        refine ⟨_, fun w => ?_, .ptr _ _ b N hφ⟩
        simp only [Instr.indexAt, asIntOf, Sem.run_bind, Sem.run_pure, Result.andThen_ok, under_run hu, Bool.and_false]
        rw [if_pos (by omega)]
        simp only [Sem.run_bind, szOf_run hsz, Result.andThen_ok, Sem.run_pure, Int.toNat_natCast, addr_add]
      · simp at h
  · rename_i el l off len sz i hu hn
    obtain ⟨k, rfl⟩ := natOf_rel hi hn
    cases hx with
    | gslice _ _ _ _ b N c hφ q1 q2 q3 =>
      split at h
      · rename_i n hsz hlt
        have hlt : i < len := Nat.le_of_ble_eq_true hlt
        simp only [Option.some.injEq] at h
        subst h
        refine ⟨_, fun w => ?_, .ptr _ _ b N hφ⟩
        simp only [Instr.indexAt, asIntOf, Sem.run_bind, Sem.run_pure, Result.andThen_ok, under_run hu, Bool.and_false]
        rw [if_pos (by omega)]
        simp only [Sem.run_bind, szOf_run hsz, Result.andThen_ok, Sem.run_pure, Int.toNat_natCast, addr_add]
      · simp at h
  · rename_i len el l off i hu hn
    obtain ⟨k, rfl⟩ := natOf_rel hi hn
    cases hx with
    | ptr _ _ b N hφ =>
      split at h
      · rename_i n hsz hlt
        have hlt : i < len := Nat.le_of_ble_eq_true hlt
        simp only [Option.some.injEq] at h
        subst h
        refine ⟨_, fun w => ?_, .ptr _ _ b N hφ⟩
        simp only [Instr.indexAt, asIntOf, Sem.run_bind, Sem.run_pure, Result.andThen_ok, under_run hu, Instr.sureAddr]
        rw [if_pos (by omega)]
        simp only [Sem.run_bind, szOf_run hsz, Result.andThen_ok, Sem.run_pure, Int.toNat_natCast, addr_add]
      · simp at h
  · simp at h

theorem index_val {t : Nat} {x ix : AV} {u j : Value} {v : AV} (hx : VRel ρ φ x u) (hi : VRel ρ φ ix j) (h : aIndex P t x ix = some v) :
    ∃ r, (∀ w, (Instr.index t u j).run P w = .ok r w) ∧ VRel ρ φ v r := by
  unfold aIndex at h
  split at h
  · rename_i len el cs i hu hn
    obtain ⟨k, rfl⟩ := natOf_rel hi hn
    cases hx with
    | agg _ us hr =>
      split at h
      · rename_i n hsz hlt
        have hlt : i < len := Nat.le_of_ble_eq_true hlt
        have hl := hr.length
        simp only [Array.length_toList] at hl
        obtain ⟨r, hp, hv⟩ := aPart_val (P := P) (C := us) (by rw [← hl, ← Array.length_toList, List.take_length]; exact hr) (by omega) h
        refine ⟨r, fun w => ?_, hv⟩
        simp only [Instr.index, asIntOf, Sem.run_bind, Sem.run_pure, Result.andThen_ok, under_run hu]
        rw [if_pos (by omega)]
        simp only [Sem.run_bind, szOf_run hsz, Result.andThen_ok, Int.toNat_natCast, part_run hp]
      · simp at h
  · simp at h
end
end Go.Ab
