/-
  TasksHome: for every goal the law returns true, and both arguments read afterwards as they read before. No condition.
-/
import Derived.Test.YtldjfokgfapkiaaGreatDoorHmJoin
import Derived.Test.YtldjfokgfapkiaaGreatDoorAbLaid
import Derived.Test.YtldjfokgfapkiaaGreatDoorRows
import Derived.Test.YtldjfokgfapkiaaGreatDoorCards
import Derived.Test.YtldjfokgfapkiaaGreatDoorTie
import Derived.ProofKit
import Derived.OpenShut
import Derived.LaidMore
import Derived.Lay
import Derived.SevenTiedAt
import Derived.Stop.Joined
namespace Go.Proofs.YtldjfokgfapkiaaGreatDoor
open Go Go.ChangeShapes Go.WideShapes Go.ChangeAt Go.RowKit
set_option maxRecDepth 100000
set_option maxHeartbeats 1000000
namespace Hm
theorem own : ownKnob Tryz.prog.godebug = none := by kernel_rfl
theorem ways_datum : Rows.laid_aileron_modes_ways (H := Unit) = .agg ([[0,4432,0,0,0,0,0,0], [4112,0,4944,0,0,0,0,4096], [0,0,0,5184,0,0,4096,4096], [0,0,0,0,5568,5248,6144,4096], [0,0,0,5184,0,5248,6144,4096], [0,0,0,5568,0,0,6144,4096], [4112,0,0,5472,0,0,0,4096], [4112,0,0,6080,0,0,4096,0]].map fun zs => .agg (Ab.litRow .i64 zs)) := rfl
theorem fields_datum : Rows.laid_aileron_call_fields (H := Unit) = .agg (Ab.litRow .i64 fieldsL) := rfl
/-- What the listed variables give the walk. -/
theorem tables {W : World} (h : laidMetH Tryz.prog Rows.tasksHomeRow.laid W) : Tables W := by
  rw [MakeChecks.laidMetH_plain _ _ _ (by kernel_rfl)] at h
  obtain ⟨ps, ⟨_, _, _, _, _, _, _, _, _, _, ⟨g2, t2, cs2, f2, p2, q2, hg2, ht2, hv2, hd2, ⟨g0, t0, cs0, f0, p0, q0, hg0, ht0, hv0, hd0, _, _⟩, _⟩, _⟩, _, _⟩ := h
  obtain rfl := Option.some.inj ((show Tryz.prog.globalNamed "aileron/modes.ways" = some 2 by kernel_rfl).symm.trans hg2)
  obtain rfl := Option.some.inj ((show Tryz.prog.globalNamed "aileron/call.fields" = some 0 by kernel_rfl).symm.trans hg0)
  have cell : ∀ (n : String) (g : Nat) (cs : Array Value), Tryz.prog.globalNamed n = some g → W.var? Tryz.prog n = some cs → ∃ T fz, W.heap[g]? = some (.cells cs T fz) := by
    intro n g cs hg hv
    simp only [World.var?, hg, Option.bind_some] at hv
    split at hv
    · rename_i cs' T fz e
      simp only [Option.some.injEq] at hv
      subst hv
      exact ⟨_, _, e⟩
    · cases hv
  obtain ⟨T0, z0, e0⟩ := cell _ _ _ hg0 hv0
  obtain ⟨T2, z2, e2⟩ := cell _ _ _ hg2 hv2
  refine ⟨⟨cs0, T0, z0, e0, ?_⟩, ⟨cs2, T2, z2, e2, ?_⟩⟩
  · rw [fields_datum] at hd0
    obtain ⟨e, h1, h2, h3, h4⟩ : ∃ e, Tryz.prog.underlying t0 = some (.array 10 e) ∧ Tryz.prog.underlying e = some (.int .i64) ∧ Tryz.prog.cellsOf e = 1 ∧ Tryz.prog.cellsOf t0 = 10 := by
      obtain ⟨t, ht⟩ : ∃ t, (Tryz.prog.globals[0]?).map (·.type) = some t := ⟨_, ht0⟩
      have hk : (((Tryz.prog.globals[0]?).map (·.type)).bind fun t => (Tryz.prog.underlying t).bind fun d => match d with | .array n e => (Tryz.prog.underlying e).map fun k => (n, e, k, Tryz.prog.cellsOf e, Tryz.prog.cellsOf t) | _ => none) = some (10, 3, .int .i64, 1, 10) := by kernel_rfl
      rw [ht0] at hk
      simp only [Option.bind_some] at hk
      cases hu : Tryz.prog.underlying t0 with
      | none => rw [hu] at hk; simp at hk
      | some d =>
        rw [hu] at hk
        simp only [Option.bind_some] at hk
        split at hk
        · rename_i n e
          simp only [Option.map_eq_some_iff, Prod.mk.injEq] at hk
          obtain ⟨k, hk1, rfl, rfl, rfl, hk2, hk3⟩ := hk
          exact ⟨3, rfl, hk1, hk2, hk3⟩
        · cases hk
    exact Ab.ints_of_trod h1 h2 h3 h4 hd0
  · rw [ways_datum] at hd2
    obtain ⟨r, e, h1, h2, h3, h4, h5, h6⟩ : ∃ r e, Tryz.prog.underlying t2 = some (.array 8 r) ∧ Tryz.prog.underlying r = some (.array 8 e) ∧ Tryz.prog.underlying e = some (.int .i64) ∧ Tryz.prog.cellsOf e = 1 ∧ Tryz.prog.cellsOf r = 8 ∧ Tryz.prog.cellsOf t2 = 64 := by
      have hk : (((Tryz.prog.globals[2]?).map (·.type)).bind fun t => (Tryz.prog.underlying t).bind fun d => match d with
        | .array n r => (Tryz.prog.underlying r).bind fun d => match d with
          | .array m e => (Tryz.prog.underlying e).map fun k => (n, m, k, Tryz.prog.cellsOf e, Tryz.prog.cellsOf r, Tryz.prog.cellsOf t)
          | _ => none
        | _ => none) = some (8, 8, .int .i64, 1, 8, 64) := by kernel_rfl
      rw [ht2] at hk
      simp only [Option.bind_some] at hk
      cases hu : Tryz.prog.underlying t2 with
      | none => rw [hu] at hk; simp at hk
      | some d =>
        rw [hu] at hk
        simp only [Option.bind_some] at hk
        split at hk
        · rename_i n r
          cases hu2 : Tryz.prog.underlying r with
          | none => rw [hu2] at hk; simp at hk
          | some d2 =>
            rw [hu2] at hk
            simp only [Option.bind_some] at hk
            split at hk
            · rename_i m e
              simp only [Option.map_eq_some_iff, Prod.mk.injEq] at hk
              obtain ⟨k, hk1, rfl, rfl, rfl, hk2, hk3, hk4⟩ := hk
              exact ⟨r, e, rfl, hu2, hk1, hk2, hk3, hk4⟩
            · cases hk
        · cases hk
    exact Ab.rows_of_trod h1 h2 h3 h4 h5 h6 hd2

theorem lifted (os : Os) (started : os.Started) (H : Type) (enc : TypeId × Value → H) :
    ReturnsInHanded {} Tryz.checked os 3 .any (fun w args => (Rows.tasksHomeSpec.pre enc Tryz.prog Tryz.f3 Rows.tasksHomeRow.domain false w args ∧ laidMetH Tryz.prog Rows.tasksHomeRow.laid w) ∧ sizedMet enc Tryz.prog Tryz.f3 (OpenSpec.ofChange Rows.tasksHomeSpec) false w args)
      (Rows.tasksHomeSpec.post enc Tryz.prog Tryz.f3 false true false false) := by
  refine returnsInHanded_of_change_and (C := Tryz.checked) (X := fun w _ => laidMetH Tryz.prog Rows.tasksHomeRow.laid w) (fun _ _ _ hh h => h.of_heap hh) own started (by kernel_rfl) Tryz.func3
    (ChangeSpec.witness_shaped (enc := enc) (C := Tryz.checked) (os := os) (X := fun w _ => laidMetH Tryz.prog Rows.tasksHomeRow.laid w) false (World.laidAll Tryz.prog os Rows.tasksHomeRow.laid) #[.int .i64 0, .int .i64 0] 8 (World.laidAll_os _ _ _)
      (World.shaped_of_ZipB (by kernel_rfl) (by kernel_rfl)) (by kernel_rfl) (by kernel_rfl) (by kernel_rfl)
      (by rw [MakeChecks.laidMetH_plain _ _ _ (by kernel_rfl)]; exact laidMet_laidAll _ (by kernel_rfl) (by kernel_rfl))) ?_
  intro W base args ds gs before hval0 hW _ _ hL _
  have hval : ∀ (j : Nat) t v, Tryz.f3.params[j]? = some t → args[j]? = some v → Value.okWide Tryz.prog W .any base t v := hval0
  have hW' := hW
  obtain ⟨p, q, hA0, hV, rfl, _, _⟩ := hW
  have hA : DataW.TrodAll enc Tryz.prog W 0 (fun _ => true) true Tryz.f3.params.toList args.toList ds p := hA0
  rw [Tryz.params3] at hA hval
  obtain ⟨v0, v1, d0, d1, p0, p1, rfl, rfl, rfl, h0, h1⟩ := trodAll_two hA
  obtain ⟨rfl, rfl⟩ := trodVars_none hV
  obtain ⟨x, rfl, rfl, rfl, wx⟩ := open_int Tryz.underlying3 (hval 0 3 v0 rfl rfl) h0
  obtain ⟨y, rfl, rfl, rfl, wy⟩ := open_int Tryz.underlying3 (hval 1 3 v1 rfl rfl) h1
  have bx : -9223372036854775808 ≤ x ∧ x ≤ 9223372036854775807 := by
    have : (decide (IntKind.i64.min ≤ x) && decide (x ≤ IntKind.i64.max)) = true := wx
    simpa [IntKind.min, IntKind.max, IntKind.signed, IntKind.bits] using this
  have bY : -9223372036854775808 ≤ y ∧ y ≤ 9223372036854775807 := by
    have : (decide (IntKind.i64.min ≤ y) && decide (y ≤ IntKind.i64.max)) = true := wy
    simpa [IntKind.min, IntKind.max, IntKind.signed, IntKind.bits] using this
  refine (home (tables hL) bx bY).mono fun e W' ⟨he, hb⟩ => ?_
  subst he
  exact ⟨_, rfl, _, _, _, [], _, [], hW', trodAll_mk1 (shut_bool Tryz.underlying4 _), trodAll_mk2 (shut_int Tryz.underlying3 wx) (shut_int Tryz.underlying3 wy), rfl, hb.frame _, fun h => by cases h⟩

theorem holds : Rows.TasksHomeSaid :=
  OpenClaim.holds_of_wide 3 Tryz.f3 rfl rfl rfl rfl rfl rfl rfl ⟨rfl, rfl, rfl, rfl, rfl⟩ rfl rfl rfl rfl rfl (by kernel_rfl) Tryz.func3 (by kernel_rfl)
    (of_decide_eq_true (by kernel_rfl)) (by unfold Func.isWrapper; first | (rw [if_pos (by decide +kernel)]; kernel_rfl) | (rw [if_neg (by decide +kernel)]; exact ⟨rfl, rfl⟩))
    (fun os started H enc _ => lifted os started H enc)
end Hm

theorem tasksHome_holds : Rows.TasksHomeCardSaid :=
  Claim7.holds_tied_plain_at .later [] [.data, .data, .data, .pinned] true (true, "000cdfd486dfb7d6fe2c5e59c9a1531adf39bdb6c79f643298b7bf85688e5170") false Hm.holds (fun _ h => by cases h) (by kernel_rfl) (fun _ h => by cases h) tasksHome_row_tie rfl ⟨rfl, rfl⟩ (by kernel_rfl) rfl
    (fun f fn hf hfn => by
      obtain rfl : f = 3 := Option.some.inj ((show Tryz.prog.funcNamed "aileron/aileronlaw23.TasksHome" = some 3 by kernel_rfl).symm.trans hf) |>.symm
      obtain rfl : fn = Tryz.f3 := (Option.some.inj (Tryz.func3.symm.trans hfn)).symm
      exact ⟨by kernel_rfl, fun j t ht => by
        rw [Tryz.params3] at ht
        have hm : t ∈ [3, 3] := by simpa using Array.mem_of_getElem? ht
        have hall : ([3, 3].all fun u => !Tryz.prog.wantsStandIn u) = true := by kernel_rfl
        exact (show Tryz.prog.wantsStandIn t = false by simpa using List.all_eq_true.1 hall t hm)⟩)
    (by kernel_rfl)
#print axioms tasksHome_holds
end Go.Proofs.YtldjfokgfapkiaaGreatDoor
