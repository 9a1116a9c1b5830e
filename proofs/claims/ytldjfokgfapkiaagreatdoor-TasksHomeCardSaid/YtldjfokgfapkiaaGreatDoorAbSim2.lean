/-
  EACH OPERATION OF THE RECKONING is one of the model's: operands, what is known, values that are built, slices.
-/
import Derived.Test.YtldjfokgfapkiaaGreatDoorAbSim
namespace Go.Ab

section
variable {P : Program} {B : Nat} {ρ : Nat → Int} {φ : PM} {G : Nat} {A : AAct} {a : Act}

/-- An operand's value stands for what it is in the frame. -/
def OpR (ρ : Nat → Int) (φ : PM) (G : Nat) (A : AAct) (a : Act) (x : Operand) : Prop := ∀ v, A.eval G x = some v → VRel ρ φ v (a.eval x)

theorem OpR.mono {φ' : PM} (hφ : φ.le φ') {x : Operand} (h : OpR ρ φ G A a x) : OpR ρ φ' G A a x := fun v hv => (h v hv).mono hφ

theorem opnEq_true {x y : Operand} (h : opnEq x y = true) : x = y := by
  cases x <;> cases y <;> simp [opnEq] at h <;> simp [h]
theorem opnEq_self (x : Operand) (h : ∀ v, x ≠ .const v) : opnEq x x = true := by
  cases x <;> simp [opnEq]
  exact absurd rfl (h _)

theorem groundOps_look : ∀ (xs : List Operand) (l : List (Operand × Value)), groundOps G A xs = some l → (∀ x ∈ xs, OpR ρ φ G A a x) → ∀ x ∈ xs, look l x = a.eval x
  | [], _, _, _ => by simp
  | y :: ys, l, h, hop => by
    unfold groundOps at h
    split at h
    · simp at h
    · rename_i v hv
      split at h
      · simp at h
      · rename_i u hu
        split at h
        · simp at h
        · rename_i r hr
          simp only [Option.some.injEq] at h
          subst h
          have ih := groundOps_look ys r hr (fun x hx => hop x (List.mem_cons.2 (.inr hx)))
          have hy : a.eval y = u := (ground_eq FU).1 v u _ hu (hop y (List.mem_cons.2 (.inl rfl)) v hv)
          intro x hx
          have look_cons : (∀ c, x ≠ .const c) → look ((y, u) :: r) x = if opnEq x y then u else look r x := by
            intro hc
            cases x
            case const c => exact absurd rfl (hc c)
            all_goals (cases he : opnEq _ y <;> simp [look, he])
          by_cases hc : ∃ c, x = .const c
          · obtain ⟨c, rfl⟩ := hc; rfl
          · have hc' : ∀ c, x ≠ .const c := fun c e => hc ⟨c, e⟩
            rw [look_cons hc']
            cases he : opnEq x y
            · rcases List.mem_cons.1 hx with rfl | hx
              · rw [opnEq_self _ hc'] at he; simp at he
              · simpa using ih x hx
            · rw [opnEq_true he, hy]; rfl

theorem ground_gives {o : Oper} {v : AV} (hs : ∀ cs b, o.op ≠ .select cs b) (hop : ∀ x ∈ o.op.operands, OpR ρ φ G A a x) (h : aGround P G A o = some v) :
    ∃ u, (∀ w, Gives P (execOp a.eval o) w u w) ∧ VRel ρ φ v u := by
  unfold aGround at h
  split at h
  · simp at h
  · rename_i l hl
    split at h
    · rename_i u hu
      have he : execOp (look l) o = execOp a.eval o :=
        execOp_congr o hs fun x hx => groundOps_look _ _ hl (fun y hy => hop y (by simpa using hy)) x (by simpa using hx)
      rw [he] at hu
      exact ⟨u, fun w => .inl (pureRun_run P _ _ hu w), (toAV_rel FU).1 _ _ h⟩
    · simp at h

theorem evals_rel : ∀ (xs : List Operand) (vs : List AV), A.evals G xs = some vs → (∀ x ∈ xs, OpR ρ φ G A a x) → VRels ρ φ vs (xs.map a.eval)
  | [], vs, h, _ => by simp [AAct.evals] at h; subst h; exact .nil
  | y :: ys, vs, h, hop => by
    unfold AAct.evals at h
    split at h
    · simp at h
    · rename_i v hv
      split at h
      · simp at h
      · rename_i us hus
        simp only [Option.some.injEq] at h
        subst h
        exact .cons _ _ _ _ (hop y (List.mem_cons.2 (.inl rfl)) v hv) (evals_rel ys us hus fun x hx => hop x (List.mem_cons.2 (.inr hx)))

/- building -/
theorem foldl_splice (off : Nat) : ∀ (vs : List Value) (k : Nat) (C : Array Value), off + k + vs.length ≤ C.size →
    ((vs.zipIdx k).foldl (fun cs (c, j) => cs.setIfInBounds (off + j) c) C).toList = C.toList.take (off + k) ++ vs ++ C.toList.drop (off + k + vs.length)
  | [], k, C, _ => by simp
  | v :: vs, k, C, h => by
    simp only [List.zipIdx_cons, List.foldl_cons]
    rw [foldl_splice off vs (k + 1) _ (by simp at h ⊢; omega)]
    have := list_seg_step C.toList (off + k) v vs (by simpa [Nat.add_assoc] using h)
    simpa [Array.toList_setIfInBounds, Nat.add_assoc] using this

theorem fill_sim (place place' : Nat → Option (Nat × Nat)) (hpl : ∀ i x, place i = some x → place' i = some x) :
    ∀ (parts : List (Nat × Operand)) (cells : List AV) (C : Array Value) (out : List AV), aFill G A place cells parts = some out → VRels ρ φ cells C.toList →
      (∀ p ∈ parts, OpR ρ φ G A a p.2) → ∃ C', Instr.fill place' C (parts.map fun p => (p.1, a.eval p.2)) = some C' ∧ VRels ρ φ out C'.toList
  | [], cells, C, out, h, hC, _ => by
    simp only [aFill, Option.some.injEq] at h; subst h
    exact ⟨C, rfl, hC⟩
  | (i, x) :: rest, cells, C, out, h, hC, hop => by
    unfold aFill at h
    split at h
    · simp at h
    · rename_i off size hp
      split at h
      · simp at h
      · rename_i v hv
        split at h
        · rename_i hc
          simp only [Bool.and_eq_true] at hc
          have e1 := Nat.eq_of_beq_eq_true hc.1
          have e2 := Nat.le_of_ble_eq_true hc.2
          have hr := cells_rel (hop (i, x) (List.mem_cons.2 (.inl rfl)) v hv)
          have hl := hr.length
          have hlC := hC.length
          simp only [Array.length_toList] at hl hlC
          have hsz : (a.eval x).cells.size = size := by omega
          have hfold : ((a.eval x).cells.zipIdx.foldl (fun cs (c, j) => cs.setIfInBounds (off + j) c) C).toList = C.toList.take off ++ (a.eval x).cells.toList ++ C.toList.drop (off + (a.eval x).cells.toList.length) := by
            rw [← Array.foldl_toList, Array.toList_zipIdx]
            exact foldl_splice off _ 0 C (by simp; omega)
          obtain ⟨C', hC', hout⟩ := fill_sim place place' hpl rest (splice cells v.cells off) _ out h (by
            rw [hfold]
            unfold splice
            have : v.cells.length = (a.eval x).cells.toList.length := by simp; omega
            rw [List.append_assoc, this]
            exact (hC.take off).append (hr.append (hC.drop _))) (fun p hp => hop p (List.mem_cons.2 (.inr hp)))
          refine ⟨C', ?_, hout⟩
          simp only [List.map_cons, Instr.fill, hpl _ _ hp, hsz]
          rw [if_neg (by simp; omega)]
          exact hC'
        · simp at h

theorem fieldsAt_run : ∀ (fs : List Field) (l : List (Nat × Nat)), fieldsAt P fs = some l → ∀ w, (fs.mapM fun f => Prod.mk f.offset <$> sizeOf f.type).run P w = .ok l w
  | [], l, h, w => by simp [fieldsAt] at h; subst h; rfl
  | f :: r, l, h, w => by
    unfold fieldsAt at h
    split at h
    · simp at h
    · rename_i n hn
      split at h
      · simp at h
      · rename_i l' hl'
        simp only [Option.some.injEq] at h
        subst h
        simp [List.mapM_cons, szOf_run hn, fieldsAt_run r l' hl' w]

theorem build_val {t : Nat} {ps : Array (Nat × Operand)} {v : AV} (hop : ∀ p ∈ ps.toList, OpR ρ φ G A a p.2) (h : aBuild P G A t ps.toList = some v) :
    ∃ u, (∀ w, (Instr.build t (ps.map fun (i, x) => (i, a.eval x))).run P w = .ok u w) ∧ VRel ρ φ v u := by
  unfold aBuild at h
  split at h
  · simp at h
  · rename_i z hz
    obtain ⟨zu, hzr, hzv⟩ := zero_run hz
    have hzc := cells_rel (hzv ρ φ)
    split at h
    · rename_i fs hu
      split at h
      · simp at h
      · rename_i l hl
        simp only [Option.map_eq_some_iff] at h
        obtain ⟨out, hf, rfl⟩ := h
        obtain ⟨C', hC', hout⟩ := fill_sim (fun i => l[i]?) (fun i => (l.toArray)[i]?) (fun i x hx => by simpa using hx) _ _ _ _ hf hzc hop
        refine ⟨.agg C', fun w => ?_, .agg _ _ hout⟩
        have := fieldsAt_run fs.toList l hl w
        have hC2 : Instr.fill (fun x => l[x]?) zu.cells (ps.toList.map fun p => (p.1, a.eval p.2)) = some C' := by simpa using hC'
        simp [Instr.build, hzr, under_run hu, Array.mapM_eq_mapM_toList, this, hC2]
    · rename_i n el hu
      split at h
      · simp at h
      · rename_i sz hsz
        simp only [Option.map_eq_some_iff] at h
        obtain ⟨out, hf, rfl⟩ := h
        obtain ⟨C', hC', hout⟩ := fill_sim (fun i => some (i * sz, sz)) (fun i => some (i * sz, sz)) (fun i x hx => hx) _ _ _ _ hf hzc hop
        refine ⟨.agg C', fun w => ?_, .agg _ _ hout⟩
        simp [Instr.build, hzr, under_run hu, szOf_run hsz, hC']
    · simp at h

theorem elemT_spec {t el : Nat} (h : elemT P t = some el) : P.underlying t = some (.slice el) := by
  unfold elemT at h
  split at h
  · rename_i e he; simp only [Option.some.injEq] at h; subst h; exact he
  · simp at h

/-- As many zero values as there are. -/
theorem reps_rel {z : List AV} {zc : Array Value} (h : VRels ρ φ z zc.toList) : ∀ n, VRels ρ φ (reps z n) ((Array.range (n * zc.size)).map (zc[· % zc.size]!)).toList := by
  intro n
  have key : ((Array.range (n * zc.size)).map (zc[· % zc.size]!)).toList = (List.replicate n zc.toList).flatten := by
    apply List.ext_getElem?
    intro j
    have hz : ∀ m j, ((List.replicate m zc.toList).flatten)[j]? = if j < m * zc.size then zc.toList[j % zc.size]? else none := by
      intro m
      induction m with
      | zero => simp
      | succ m ih =>
        intro j
        rw [List.replicate_succ, List.flatten_cons, List.getElem?_append]
        by_cases hj : j < zc.toList.length
        · simp only [hj, if_true]
          simp only [Array.length_toList] at hj
          rw [Nat.mod_eq_of_lt hj, if_pos (by rw [Nat.succ_mul]; omega)]
        · simp only [hj, if_false]
          simp only [Array.length_toList] at hj
          rw [ih]
          have e : (j - zc.toList.length) % zc.size = j % zc.size := by
            simp only [Array.length_toList]
            have hge : zc.size ≤ j := by omega
            conv => rhs; rw [← Nat.sub_add_cancel hge, Nat.add_mod_right]
          rw [e]
          simp only [Array.length_toList]
          by_cases h2 : j - zc.size < m * zc.size
          · rw [if_pos h2, if_pos (by rw [Nat.succ_mul]; omega)]
          · rw [if_neg h2, if_neg (by rw [Nat.succ_mul]; omega)]
    rw [hz]
    by_cases hj : j < n * zc.size
    · have hpos : 0 < zc.size := by
        rcases Nat.eq_zero_or_pos zc.size with h0 | h0
        · rw [h0] at hj; omega
        · exact h0
      have hm : j % zc.size < zc.size := Nat.mod_lt _ hpos
      simp [hj, hm]
    · simp [hj]
  rw [key]
  clear key
  induction n with
  | zero => exact .nil
  | succ n ih =>
    rw [List.replicate_succ, List.flatten_cons]
    exact h.append ih

/-- A new row under a slice. -/
theorem newSlice_sim {el len cap : Nat} {cs : List AV} {C : Array Value} (hC : VRels ρ φ cs C.toList) :
    SimV P B ρ φ ((newO (.cells false false el cs)).bind fun l => EM.pure (.slice l 0 len cap)) (do pure (.slice (some (← newRow el C)) len cap)) := by
  intro s v s' w hm hH hf
  obtain ⟨l, s1, h1, h2⟩ := bind_spec hm
  obtain ⟨rfl, rfl⟩ := pure_spec h2
  have hl := hC.length
  simp only [Array.length_toList] at hl
  obtain ⟨rfl, hp⟩ := newRow_post (C := C) h1 hH hf (by rw [← hl, ← Array.length_toList, List.take_length]; exact hC) (fun _ => hl.symm) (by omega) w.drawn
  refine ⟨_, _, _, ?_, .slice _ _ _ _ w.heap.size C.size (PM.put_self _ _), hp⟩
  simp [newRow]

/-- What looks at no memory ahead of a step. -/
theorem SimV.pre {m : EM AV} {sem : Sem Value} {sem' : Sem Value} (h : SimV P B ρ φ m sem) (he : ∀ w, sem'.run P w = sem.run P w) : SimV P B ρ φ m sem' := by
  intro s v s' w hm hH hf
  obtain ⟨φ', u, w', hr, hv, hp⟩ := h s v s' w hm hH hf
  exact ⟨φ', u, w', by rw [he, hr], hv, hp⟩

theorem buildSlice_sim {t n : Nat} {ps : Array (Nat × Operand)} (hop : ∀ p ∈ ps.toList, OpR ρ φ G A a p.2) :
    SimV P B ρ φ (aBuildSlice P G A t n ps.toList) (Instr.buildSlice t n (ps.map fun (i, x) => (i, a.eval x))) := by
  unfold aBuildSlice
  split
  · exact SimV.fail
  · rename_i el hel
    have hu := elemT_spec hel
    split
    · rename_i sz z hsz hz
      cases hc : (Nat.ble (n * sz) 16777216 && (Nat.beq z.cells.length sz && Nat.ble 1 (n * sz)))
      · dsimp only
        split
        · rename_i hps e0
          have e0 := Nat.eq_of_beq_eq_true e0
          have hps : ps = #[] := by simpa using hps
          subst hps
          refine (newSlice_sim (len := n) (cap := n) (C := #[]) .nil).pre fun w => ?_
          simp only [Instr.buildSlice, Sem.run_bind, under_run hu, Result.andThen_ok, szOf_run hsz]
          rw [if_neg (by omega), if_pos e0]
          simp [Sem.run_pure, Result.andThen_ok, Instr.fill, e0, newRow]
          have hz0 : (Array.range 0).map (fun _ : Nat => (default : Value)) = #[] := Array.eq_empty_of_size_eq_zero (by simp)
          rw [hz0]
        · exact SimV.fail
      · dsimp only
        simp only [Bool.and_eq_true] at hc
        have e1 := Nat.le_of_ble_eq_true hc.1
        have e2 := Nat.eq_of_beq_eq_true hc.2.1
        have e3 := Nat.le_of_ble_eq_true hc.2.2
        split
        · exact SimV.fail
        · rename_i cs hf
          obtain ⟨zu, hzr, hzv⟩ := zero_run hz
          have hzc := cells_rel (hzv ρ φ)
          have hlz := hzc.length
          simp only [Array.length_toList] at hlz
          have hzs : zu.cells.size = sz := by omega
          obtain ⟨C', hC', hout⟩ := fill_sim (ρ := ρ) (φ := φ) (a := a) (fun i => some (i * sz, sz)) (fun i => some (i * sz, sz)) (fun i x hx => hx) _ _ _ _ hf (reps_rel hzc n) hop
          rw [hzs] at hC'
          refine (newSlice_sim (len := n) (cap := n) hout).pre fun w => ?_
          simp only [Instr.buildSlice, Sem.run_bind, under_run hu, Result.andThen_ok, szOf_run hsz]
          rw [if_neg (by omega), if_neg (by omega)]
          simp only [Sem.run_bind, Sem.run_pure, Result.andThen_ok, hzr, hzs]
          have hC2 : Instr.fill (fun i => some (i * sz, sz)) (Array.map (fun x => zu.cells[x % sz]!) (Array.range (n * sz))) (Array.map (fun x => (x.fst, a.eval x.snd)) ps).toList = some C' := by
            simpa using hC'
          rw [hC2]
          simp [newRow]
    · exact SimV.fail

theorem makeSlice_sim {t : Nat} {l c : AV} {x y : Value} (hx : VRel ρ φ l x) (hy : VRel ρ φ c y) : SimV P B ρ φ (aMakeSlice P t l c) (Instr.makeSlice t x y) := by
  unfold aMakeSlice
  split
  · rename_i el m n hel
    have hu := elemT_spec hel
    cases hx with
    | int _ _ _ hx =>
    cases hy with
    | int _ _ _ hy =>
    simp only [SI.val] at hx hy
    subst hx hy
    split
    · rename_i i z hi hz
      cases hc : (Nat.ble m n && (Nat.ble n 1000000 && (Nat.ble i.bytes 10000 && (Nat.beq z.cells.length i.size && Nat.ble 1 i.size))))
      · exact SimV.fail
      · dsimp only
        simp only [Bool.and_eq_true] at hc
        obtain ⟨e1, e2, e3, e4, e5⟩ := hc
        have e1 := Nat.le_of_ble_eq_true e1
        have e2 := Nat.le_of_ble_eq_true e2
        have e3 := Nat.le_of_ble_eq_true e3
        have e4 := Nat.eq_of_beq_eq_true e4
        have e5 := Nat.le_of_ble_eq_true e5
        obtain ⟨zu, hzr, hzv⟩ := zero_run hz
        have hzc := cells_rel (hzv ρ φ)
        have hlz := hzc.length
        simp only [Array.length_toList] at hlz
        have hzs : zu.cells.size = i.size := by omega
        have hreps := reps_rel hzc n
        rw [hzs] at hreps
        refine (newSlice_sim (el := el) (len := m) (cap := n) hreps).pre fun w => ?_
        have hi' : Tables.info? P.toTables el = some i := hi
        have hw : ∀ k : Nat, k ≤ 1000000 → IntKind.i64.wrap (k : Int) = k := by
          intro k hk
          have hb : IntKind.i64.bits = 64 := rfl
          have hs : IntKind.i64.signed = true := rfl
          simp only [IntKind.wrap, hb, hs, Bool.true_and]
          have : (k : Int) % 2 ^ 64 = k := Int.emod_eq_of_lt (by omega) (by omega)
          rw [this]
          split
          · rename_i h; simp at h; omega
          · rfl
        have hmul : i.bytes * n ≤ 10000 * 1000000 := Nat.mul_le_mul e3 e2
        have hbt : ¬ ((i.bytes : Int) * (n : Int) > 2 ^ 48) := by
          have h3 : ((i.bytes * n : Nat) : Int) ≤ ((10000 * 1000000 : Nat) : Int) := Int.ofNat_le.2 hmul
          rw [Int.natCast_mul] at h3
          generalize (i.bytes : Int) * (n : Int) = q at *
          omega
        simp only [Instr.makeSlice, Sem.run_bind, under_run hu, Result.andThen_ok, asInt, asIntOf, Sem.run_pure, typeInfo, run_program, hi', hw m (by omega), hw n e2, Int.ofNat_eq_natCast]
        rw [if_neg (by
          simp only [Bool.or_eq_true, decide_eq_true_eq, not_or]
          exact ⟨⟨⟨by omega, hbt⟩, by omega⟩, by omega⟩)]
        simp only [run_askRoom, Sem.run_bind, Result.andThen_ok, Int.toNat_natCast]
        have hsz : szOf P el = some i.size := by simp [szOf, hi]
        simp only [szOf_run hsz, Result.andThen_ok]
        split
        · rename_i h0
          have : n = 0 := by
            rcases Nat.mul_eq_zero.1 h0 with h | h
            · exact h
            · omega
          subst this
          have hr0 : ∀ f : Nat → Value, Array.map f (Array.range 0) = #[] := fun _ => by simp
          simp only [Sem.run_bind, Sem.run_pure, Result.andThen_ok, Nat.zero_mul, hr0]
        · simp only [Sem.run_bind, hzr, Sem.run_pure, Result.andThen_ok, hzs]
    · exact SimV.fail
  · exact SimV.fail
end
end Go.Ab
