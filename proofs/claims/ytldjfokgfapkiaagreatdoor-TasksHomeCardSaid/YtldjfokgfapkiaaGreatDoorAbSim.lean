/-
  EACH OPERATION OF THE RECKONING is one of the model's: loads, stores, new rows, parts of values.
-/
import Derived.Test.YtldjfokgfapkiaaGreatDoorAbPost
import Derived.Laws.CopyRow
namespace Go.Ab

/-- What an operation gives: a value, or nothing. -/
def Gives (P : Program) (sem : Sem Next) (w : World) (u : Value) (w' : World) : Prop :=
  sem.run P w = .ok (.value u) w' ∨ (sem.run P w = .ok .skip w' ∧ u = undef)

def SimN (P : Program) (B : Nat) (ρ : Nat → Int) (φ : PM) (m : EM AV) (sem : Sem Next) : Prop :=
  ∀ s v s' w, m s = some (v, s') → HRel B ρ φ s.H.get w → Fresh φ s.n s'.n →
    ∃ φ' u w', Gives P sem w u w' ∧ VRel ρ φ' v u ∧ Post B ρ φ φ' s s' w w'
def SimV (P : Program) (B : Nat) (ρ : Nat → Int) (φ : PM) (m : EM AV) (sem : Sem Value) : Prop :=
  ∀ s v s' w, m s = some (v, s') → HRel B ρ φ s.H.get w → Fresh φ s.n s'.n →
    ∃ φ' u w', sem.run P w = .ok u w' ∧ VRel ρ φ' v u ∧ Post B ρ φ φ' s s' w w'
def SimU (P : Program) (B : Nat) (ρ : Nat → Int) (φ : PM) (m : EM Unit) (sem : Sem Unit) : Prop :=
  ∀ s v s' w, m s = some (v, s') → HRel B ρ φ s.H.get w → Fresh φ s.n s'.n →
    ∃ φ' w', sem.run P w = .ok () w' ∧ Post B ρ φ φ' s s' w w'

section
variable {P : Program} {B : Nat} {ρ : Nat → Int} {φ : PM}

theorem undef_rel : VRel ρ φ undefAV undef := .tuple _ _ .nil

theorem SimV.next {m : EM AV} {sem : Sem Value} (h : SimV P B ρ φ m sem) : SimN P B ρ φ m (do pure (.value (← sem))) := by
  intro s v s' w hm hH hf
  obtain ⟨φ', u, w', hr, hv, hp⟩ := h s v s' w hm hH hf
  exact ⟨φ', u, w', .inl (by simp [hr]), hv, hp⟩
theorem SimU.next {m : EM Unit} {sem : Sem Unit} (h : SimU P B ρ φ m sem) : SimN P B ρ φ (m.bind fun _ => EM.pure undefAV) (do sem; pure .skip) := by
  intro s v s' w hm hH hf
  obtain ⟨u, s1, h1, h2⟩ := bind_spec hm
  obtain ⟨rfl, rfl⟩ := pure_spec h2
  obtain ⟨φ', w', hr, hp⟩ := h s u s' w h1 hH hf
  exact ⟨φ', undef, w', .inr ⟨by simp [hr], rfl⟩, undef_rel, hp⟩
/-- A step that looks at no memory. -/
theorem SimN.lift {x : Option AV} {sem : Sem Next} (h : ∀ v, x = some v → ∃ u, (∀ w, Gives P sem w u w) ∧ VRel ρ φ v u) : SimN P B ρ φ (EM.lift x) sem := by
  intro s v s' w hm hH _
  obtain ⟨hx, rfl⟩ := lift_spec hm
  obtain ⟨u, hg, hv⟩ := h v hx
  exact ⟨φ, u, w, hg w, hv, Post.same hH rfl rfl (Fr.refl _ _)⟩
theorem SimN.fail {sem : Sem Next} : SimN P B ρ φ (EM.fail : EM AV) sem := fun _ _ _ _ h _ _ => (fail_spec h).elim
theorem SimV.fail {sem : Sem Value} : SimV P B ρ φ (EM.fail : EM AV) sem := fun _ _ _ _ h _ _ => (fail_spec h).elim
theorem SimV.lift {x : Option AV} {sem : Sem Value} (h : ∀ v, x = some v → ∃ u, (∀ w, sem.run P w = .ok u w) ∧ VRel ρ φ v u) : SimV P B ρ φ (EM.lift x) sem := by
  intro s v s' w hm hH _
  obtain ⟨hx, rfl⟩ := lift_spec hm
  obtain ⟨u, hg, hv⟩ := h v hx
  exact ⟨φ, u, w, hg w, hv, Post.same hH rfl rfl (Fr.refl _ _)⟩

/- types -/
theorem szOf_run {t n : Nat} (h : szOf P t = some n) (w : World) : (sizeOf t).run P w = .ok n w := by
  unfold szOf at h
  split at h
  · rename_i i hi
    simp only [Option.some.injEq] at h
    have hi' : Tables.info? P.toTables t = some i := hi
    simp [sizeOf, typeInfo, hi', h]
  · simp at h
theorem under_run {t : Nat} {d : TypeDesc} (h : P.underlying t = some d) (w : World) : (underlying t).run P w = .ok d w := by
  simp [underlying, h]
theorem aggT_run {t : Nat} {b : Bool} (h : aggT P t = some b) (w : World) : (isAgg t).run P w = .ok b w := by
  unfold aggT at h
  split at h <;> simp only [reduceCtorEq, Option.some.injEq] at h
  · rename_i hu; subst h; simp [isAgg, under_run hu]
  · rename_i hu; subst h; simp [isAgg, under_run hu]
  · rename_i d h1 h2 hu
    subst h
    simp only [isAgg, Sem.run_bind, under_run hu, Result.andThen_ok]
    cases d <;> first | rfl | exact (h1 _ rfl).elim | exact (h2 _ _ rfl).elim
theorem zero_run {t : Nat} {z : AV} (h : zeroAV P t = some z) : ∃ u, (∀ w, (zeroValue t).run P w = .ok u w) ∧ ∀ ρ φ, VRel ρ φ z u := by
  unfold zeroAV at h
  split at h
  · rename_i i hi
    split at h
    · rename_i v hv
      have hi' : Tables.info? P.toTables t = some i := hi
      exact ⟨v, fun w => by simp [zeroValue, typeInfo, hi', hv], fun ρ φ => (toAV_rel FU).1 _ _ h⟩
    · simp at h
  · simp at h

theorem cells_rel {v : AV} {u : Value} (h : VRel ρ φ v u) : VRels ρ φ v.cells u.cells.toList := by
  cases h
  case agg xs us h => exact h
  all_goals exact .cons _ _ _ _ (by constructor <;> assumption) .nil

/-- A part of a row of cells. -/
def PartOf (P : Program) (t : Nat) (C : Array Value) (off : Nat) (u : Value) : Prop :=
  (∃ n, aggT P t = some true ∧ szOf P t = some n ∧ off + n ≤ C.size ∧ u = .agg (C.extract off (off + n))) ∨ (aggT P t = some false ∧ C[off]? = some u)

theorem take_get {C : List Value} {n i : Nat} {u : Value} (h : (C.take n)[i]? = some u) : C[i]? = some u ∧ i < n := by
  rw [List.getElem?_take] at h
  split at h
  · exact ⟨h, ‹_›⟩
  · simp at h

theorem aPart_val {t off : Nat} {cs : List AV} {C : Array Value} {v : AV} (hC : VRels ρ φ cs (C.toList.take cs.length)) (hn : cs.length ≤ C.size) (h : aPart P t cs off = some v) :
    ∃ u, PartOf P t C off u ∧ VRel ρ φ v u := by
  unfold aPart at h
  split at h
  · rename_i n ha hs
    split at h
    · rename_i hle
      have hle := Nat.le_of_ble_eq_true hle
      simp only [Option.some.injEq] at h
      subst h
      refine ⟨_, .inl ⟨n, ha, hs, by omega, rfl⟩, .agg _ _ ?_⟩
      have h2 := (hC.drop off).take n
      have e : (C.extract off (off + n)).toList = List.take n (List.drop off (List.take cs.length C.toList)) := by
        rw [Array.toList_extract]
        apply List.ext_getElem?
        intro j
        simp only [List.extract_eq_take_drop, List.getElem?_take, List.getElem?_drop]
        by_cases hj : j < n
        · simp only [hj, if_true, show j < off + n - off by omega, show off + j < cs.length by omega]
        · simp only [hj, if_false, show ¬ j < off + n - off by omega]
      rw [e]; exact h2
    · simp at h
  · rename_i n ha hs
    obtain ⟨u, hu, hv⟩ := hC.get h
    exact ⟨u, .inr ⟨ha, by simpa using (take_get hu).1⟩, hv⟩
  · simp at h

theorem part_run {t off : Nat} {C : Array Value} {u : Value} (h : PartOf P t C off u) (w : World) : (part t C off).run P w = .ok u w := by
  rcases h with ⟨n, ha, hs, _, rfl⟩ | ⟨ha, hu⟩
  · simp [part, aggT_run ha, szOf_run hs]
  · simp [part, aggT_run ha, hu]

theorem loadVar_run {t off b : Nat} {C : Array Value} {T : Nat} {fz : Nat × Nat} {u : Value} {w : World} (hx : w.heap[b]? = some (.cells C T fz)) (h : PartOf P t C off u) :
    (loadVar t ⟨b, off, none⟩).run P w = .ok u w := by
  have hcell : ∀ i v, C[off + i]? = some v → w.cell? (Addr.add ⟨b, off, none⟩ i) = some v := by
    intro i v hv
    have : Addr.add ⟨b, off, none⟩ i = ⟨b, off + i, none⟩ := by unfold Addr.add; split <;> simp_all
    rw [this]; simp [World.cell?, hx, hv]
  rcases h with ⟨n, ha, hs, hle, rfl⟩ | ⟨ha, hu⟩
  · have hl : (C.extract off (off + n)).toList.length = n := by simp; omega
    have := run_loadCells_list (P := P) w ⟨b, off, none⟩ (C.extract off (off + n)).toList (fun j v hv => hcell j v (by
      simp only [Array.toList_extract, List.extract_eq_take_drop, List.getElem?_take, List.getElem?_drop, Array.getElem?_toList] at hv
      split at hv
      · exact hv
      · simp at hv))
    rw [hl, Array.toArray_toList] at this
    simp only [loadVar, Sem.run_bind, aggT_run ha, szOf_run hs, Result.andThen_ok, if_true, this]
    rfl
  · have := hcell 0 u (by simpa using hu)
    simp only [Addr.add, if_true] at this
    simp [loadVar, aggT_run ha, this]

theorem allCells_one : ∀ {xs : List AV} {us : List Value}, VRels ρ φ xs us → allCells xs = true → ∀ u ∈ us, u.oneCell' = true
  | _, _, .nil, _ => by simp
  | _, _, .cons x u xs us h h', ha => by
    simp only [allCells, Bool.and_eq_true] at ha
    intro v hv
    rcases List.mem_cons.1 hv with rfl | hv
    · cases h <;> simp [isCell] at ha <;> rfl
    · exact allCells_one h' ha.2 v hv

theorem splice_length {cs vs : List AV} {off : Nat} (h : off + vs.length ≤ cs.length) : (splice cs vs off).length = cs.length := by
  simp [splice]; omega

theorem take_splice (C vs : List Value) (off n : Nat) (h : off + vs.length ≤ n) (hn : n ≤ C.length) :
    (C.take off ++ vs ++ C.drop (off + vs.length)).take n = (C.take n).take off ++ (vs ++ (C.take n).drop (off + vs.length)) := by
  have h1 : (C.take off).length = off := by simp; omega
  rw [List.append_assoc, List.take_append, h1, List.take_append, List.take_take, List.take_take, Nat.min_eq_right (by omega : off ≤ n), Nat.min_eq_left (by omega : off ≤ n), List.take_of_length_le (l := vs) (by omega), List.drop_take]
  congr 3
  omega

/-- A row of which some cells are other ones. -/
theorem splice_rel {cs vs : List AV} {C : Array Value} {us : List Value} {off : Nat} (hC : VRels ρ φ cs (C.toList.take cs.length)) (hn : cs.length ≤ C.size)
    (hv : VRels ρ φ vs us) (h : off + vs.length ≤ cs.length) :
    VRels ρ φ (splice cs vs off) ((C.toList.take off ++ us ++ C.toList.drop (off + us.length)).toArray.toList.take (splice cs vs off).length) := by
  have hl := hv.length
  rw [splice_length h]
  show VRels ρ φ (splice cs vs off) ((C.toList.take off ++ us ++ C.toList.drop (off + us.length)).take cs.length)
  rw [take_splice _ _ _ _ (by omega) (by simpa using hn)]
  unfold splice
  rw [hl]
  exact (hC.take off).append (hv.append (hC.drop _))

theorem setRow_set {w : World} {b : Nat} {C C' : Array Value} {T : Nat} {fz : Nat × Nat} (hx : w.heap[b]? = some (.cells C T fz)) :
    w.setRow b C' = { w with heap := w.heap.setIfInBounds b (.cells C' T fz) } := by
  have hb := lt_of_heap hx
  unfold World.setRow
  congr 1
  apply Array.ext_getElem?
  intro k
  simp only [Array.getElem?_modify, Array.getElem?_setIfInBounds]
  by_cases hk : b = k
  · subst hk
    have hx' : w.heap[b] = .cells C T fz := (Array.getElem?_eq_some_iff.1 hx).2
    simp [hb, hx']
  · simp [hk]

/-- Writing cells over some of a row's. -/
theorem over_sim {l at_ : Nat} {new : List AV} {us : List Value} (hv : VRels ρ φ new us) {b N : Nat} (hφ : φ l = some (b, N)) :
    SimU P B ρ φ (aOver l at_ new) (storeCells ⟨b, at_, none⟩ us) := by
  intro s v s' w hm hH _
  unfold aOver at hm
  obtain ⟨o, s1, h1, h2⟩ := bind_spec hm
  obtain ⟨ho, ha, hs1, hn1⟩ := rd_spec h1
  split at h2
  · rename_i ro gr el cs
    cases hc : (Nat.ble (at_ + new.length) cs.length && allCells new) <;> rw [hc] at h2
    · exact (fail_spec h2).elim
    · simp only [Bool.and_eq_true] at hc
      have hle := Nat.le_of_ble_eq_true hc.1
      obtain ⟨o', ho', ha', hro', hset, hn'⟩ := wr_spec h2
      rw [hs1] at ho' hset
      rw [ho] at ho'
      simp only [Option.some.injEq] at ho'
      subst ho'
      obtain ⟨b2, N2, x, g1, g2, g3, g4⟩ := hH.at_ l _ ho ha
      rw [hφ] at g1
      simp only [Option.some.injEq, Prod.mk.injEq] at g1
      obtain ⟨rfl, rfl⟩ := g1
      cases x <;> simp only [ORel] at g3
      rename_i C T fz
      obtain ⟨q1, q2, q3, q4, q5, q6⟩ := g3
      simp only [AObj.ro] at hro'
      subst hro'
      have q1 := q1 rfl
      subst q1
      have hfz := q6 rfl
      subst hfz
      have hl := hv.length
      have hst := run_storeCells_at P b at_ T us 0 C w g2 (by omega) (allCells_one hv hc.2)
      rw [Nat.add_zero, setRow_set g2] at hst
      refine ⟨φ, _, hst, ?_⟩
      refine (Post.write (s := s) (s' := s') hH ho ha rfl hφ hset (by omega) rfl fun _ => ?_)
      refine ⟨fun _ => rfl, ?_, ?_, ?_, ?_, fun _ => rfl⟩
      · simp; omega
      · intro hg; rw [splice_length hle]; exact q3 hg
      · rw [splice_length hle]; exact q4
      · exact splice_rel q5 (by omega) hv hle
  · exact (fail_spec h2).elim

theorem load_sim {t : Nat} {p : AV} {u : Value} (hp : VRel ρ φ p u) : SimV P B ρ φ (aLoad P t p) (Instr.loadAt t u) := by
  intro s v s' w hm hH _
  unfold aLoad at hm
  split at hm
  · rename_i l off
    cases hp with
    | ptr _ _ b N hφ =>
      obtain ⟨o, s1, h1, h2⟩ := bind_spec hm
      obtain ⟨ho, ha, hs1, hn1⟩ := rd_spec h1
      split at h2
      · rename_i ro gr el cs
        obtain ⟨hv, rfl⟩ := lift_spec h2
        obtain ⟨b2, N2, x, g1, g2, g3, g4⟩ := hH.at_ l _ ho ha
        rw [hφ] at g1
        simp only [Option.some.injEq, Prod.mk.injEq] at g1
        obtain ⟨rfl, rfl⟩ := g1
        cases x <;> simp only [ORel] at g3
        rename_i C T fz
        obtain ⟨_, q2, q3, q4, q5, q6⟩ := g3
        obtain ⟨u, hu, hvu⟩ := aPart_val (P := P) q5 (by omega) hv
        exact ⟨φ, u, w, by simp [Instr.loadAt, Instr.sureAddr, loadVar_run g2 hu], hvu, Post.same hH hs1 hn1 (Fr.refl _ _)⟩
      · exact (fail_spec h2).elim
  · exact (fail_spec hm).elim

theorem store_sim {t : Nat} {p v : AV} {a u : Value} (hp : VRel ρ φ p a) (hv : VRel ρ φ v u) : SimU P B ρ φ (aStore P t p v) (Instr.storeAt t a u) := by
  intro s x s' w hm hH hf
  unfold aStore at hm
  split at hm
  · rename_i l off
    cases hp with
    | ptr _ _ b N hφ =>
      obtain ⟨o, s1, h1, h2⟩ := bind_spec hm
      split at h2
      · rename_i ro gr el cs
        cases hn : szOf P t with
        | none => rw [hn] at h2; exact (fail_spec h2).elim
        | some n =>
          rw [hn] at h2
          dsimp only at h2
          cases hc : (Nat.beq v.cells.length n && (Nat.ble (off + n) cs.length && allCells v.cells)) <;> rw [hc] at h2
          · exact (fail_spec h2).elim
          · simp only [Bool.and_eq_true] at hc
            have e1 := Nat.eq_of_beq_eq_true hc.1
            have hov : aOver l off v.cells s = some ((), s') := by
              unfold aOver EM.bind
              rw [h1]
              simp only
              rw [e1, hc.2.1, hc.2.2]
              exact h2
            obtain ⟨φ', w', hr, hpost⟩ := over_sim (P := P) (B := B) (cells_rel hv) hφ s () s' w hov hH hf
            refine ⟨φ', w', ?_, hpost⟩
            have hsz : u.cells.size = n := by rw [← e1, ← (cells_rel hv).length]; simp
            simp [Instr.storeAt, Instr.sureAddr, storeVar, szOf_run hn, hsz, hr]
      · exact (fail_spec h2).elim
  · exact (fail_spec hm).elim

/-- A new row, known whole, and its address. -/
theorem newRow_post {s s' : St} {w : World} {el n : Nat} {cs : List AV} {C : Array Value} {gr : Bool} (hm : newO (.cells false gr el cs) s = some (n, s')) (hH : HRel B ρ φ s.H.get w)
    (hf : Fresh φ s.n s'.n) (hC : VRels ρ φ cs (C.toList.take cs.length)) (h1 : gr = false → cs.length = C.size) (h2 : cs.length ≤ C.size) (d : Nat) :
    n = s.n ∧ Post B ρ φ (φ.put s.n (w.heap.size, C.size)) s s' w { w with heap := w.heap.push (.cells C el), drawn := d } := by
  obtain ⟨rfl, hset, hn⟩ := newO_spec hm
  have hfn : φ s.n = none := hf s.n (Nat.le_refl _) (by omega)
  refine ⟨rfl, Post.made hH hfn hset hn rfl fun _ => ?_⟩
  exact ⟨fun _ => rfl, rfl, h1, h2, hC.mono (PM.put_le hfn), fun _ => rfl⟩

theorem new_sim {el : Nat} {cs : List AV} {C : Array Value} (hC : VRels ρ φ cs C.toList) :
    SimV P B ρ φ (aNew el cs) (do pure (.pointer (some (← newRow el C)))) := by
  intro s v s' w hm hH hf
  unfold aNew at hm
  obtain ⟨l, s1, h1, h2⟩ := bind_spec hm
  obtain ⟨rfl, rfl⟩ := pure_spec h2
  have hl := hC.length
  simp only [Array.length_toList] at hl
  obtain ⟨rfl, hp⟩ := newRow_post (C := C) h1 hH hf (by rw [← hl, ← Array.length_toList, List.take_length]; exact hC) (fun _ => hl.symm) (by omega) w.drawn
  refine ⟨_, _, _, ?_, .ptr _ _ w.heap.size C.size (PM.put_self _ _), hp⟩
  simp [newRow]
end
end Go.Ab
