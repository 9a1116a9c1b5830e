/-
  TABLES OF WHOLE NUMBERS: the cells of a table that reads as this datum.
-/
import Derived.OpenShut
import Derived.ChangeArms
namespace Go.Ab
variable {H : Type} {enc : TypeId × Value → H} {P : Program} {w : World} {base : Nat} {spare : Nat → Bool} {held : Bool}

def litRow {H : Type} (k : IntKind) (zs : List Int) : List (DataW H) := zs.map fun z => .lit (.int k z)

theorem ints_of_trod {k : IntKind} {n : Nat} {t e : TypeId} {cs : List Value} {fuel : Nat} {zs : List Int} {p : List MemPlace} (ht : P.underlying t = some (.array n e)) (he : P.underlying e = some (.int k)) (hc : P.cellsOf e = 1)
    (hct : P.cellsOf t = n) (h : DataW.trod enc P w base spare held fuel t cs = some (.agg (litRow k zs), p)) : cs = zs.map (.int k ·) := by
  obtain ⟨xs, m, rfl, hx, hl, hn, hel⟩ := DataW.trod_array ht h
  simp only [Prod.mk.injEq, DataW.agg.injEq] at hx
  have hzn : zs.length = n := by have := congrArg List.length hx.1; simp [litRow] at this; omega
  refine List.ext_getElem? fun i => ?_
  by_cases hi : i < n
  · have h1 := hel i hi
    rw [hc, Nat.mul_one, List.getElem?_eq_getElem (by omega : i < xs.length)] at h1
    obtain ⟨z, e1, e2, _⟩ := DataW.trod_int he h1
    have h2 : (litRow (H := H) k zs)[i]? = (xs.map (·.1))[i]? := by rw [hx.1]
    rw [litRow, List.getElem?_map, List.getElem?_map, List.getElem?_eq_getElem (by omega : i < xs.length), List.getElem?_eq_getElem (by omega : i < zs.length), e2] at h2
    simp only [Option.map_some, Option.some.injEq, DataW.lit.injEq, Lit.int.injEq, true_and] at h2
    have h3 : ((cs.drop i).take 1)[0]? = some (.int k z) := by rw [e1]; rfl
    rw [List.getElem?_map, List.getElem?_eq_getElem (by omega : i < zs.length), h2]
    simpa using h3
  · rw [List.getElem?_eq_none (by omega), List.getElem?_eq_none (by simp; omega)]

theorem rows_of_trod {k : IntKind} {n m : Nat} {t r e : TypeId} {cs : List Value} {fuel : Nat} {rows : List (List Int)} {p : List MemPlace} (ht : P.underlying t = some (.array n r)) (hr : P.underlying r = some (.array m e)) (he : P.underlying e = some (.int k))
    (hc : P.cellsOf e = 1) (hcr : P.cellsOf r = m) (hct : P.cellsOf t = n * m) (h : DataW.trod enc P w base spare held fuel t cs = some (.agg (rows.map fun zs => .agg (litRow k zs)), p)) : cs = rows.flatten.map (.int k ·) := by
  obtain ⟨xs, f, rfl, hx, hl, hn, hel⟩ := DataW.trod_array ht h
  simp only [Prod.mk.injEq, DataW.agg.injEq] at hx
  have hzn : rows.length = n := by have := congrArg List.length hx.1; simp at this; omega
  have row : ∀ i (hi : i < n), (cs.drop (i * m)).take m = (rows[i]'(by omega)).map (.int k ·) := by
    intro i hi
    have h1 := hel i hi
    rw [hcr, List.getElem?_eq_getElem (by omega : i < xs.length)] at h1
    have h2 : (rows.map fun zs => (DataW.agg (litRow k zs) : DataW H))[i]? = (xs.map (·.1))[i]? := by rw [hx.1]
    rw [List.getElem?_map, List.getElem?_map, List.getElem?_eq_getElem (by omega : i < xs.length), List.getElem?_eq_getElem (by omega : i < rows.length)] at h2
    simp only [Option.map_some, Option.some.injEq] at h2
    have h3 : xs[i] = (DataW.agg (litRow k rows[i]), xs[i].2) := by rw [h2]
    rw [h3] at h1
    exact ints_of_trod hr he hc hcr h1
  have all : ∀ i, i ≤ n → cs.take (i * m) = ((rows.take i).flatten).map (.int k ·) := by
    intro i
    induction i with
    | zero => intro _; simp
    | succ i ih =>
      intro hi
      rw [Nat.succ_mul, List.take_add, ih (by omega), row i (by omega), List.take_succ_eq_append_getElem (by omega : i < rows.length)]
      simp only [List.flatten_append, List.map_append, List.flatten_cons, List.flatten_nil, List.append_nil]
  have := all n (Nat.le_refl _)
  rw [List.take_of_length_le (by omega), List.take_of_length_le (by omega)] at this
  exact this
end Go.Ab
