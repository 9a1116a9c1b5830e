/-
  EVERY STEP OF THE RECKONING HANGS ON NOTHING BUT WHAT IT LOGS.
-/
import Derived.Test.YtldjfokgfapkiaaGreatDoorAbSim7
namespace Go.Ab

section
variable {P : Program} {en : Env} {G : Nat} {A : AAct}

theorem Uni.emO {α : Type} {x : Option AV} {k : AV → EM α} (h : ∀ v, Uni (k v)) : Uni (emO x k) := by
  unfold Ab.emO
  split
  · exact Uni.fail
  · exact h _
theorem Uni.orG {o : Oper} {b : Bool} {x : Option AV} : Uni (orG P G A o b x) := by
  unfold Ab.orG
  split <;> exact Uni.lift _

theorem uni_load {t : Nat} {p : AV} : Uni (aLoad P t p) := by
  unfold aLoad
  repeat' (first | exact Uni.fail | exact Uni.lift _ | refine Uni.bind (Uni.rd _) fun _ => ?_ | split)
theorem uni_store {t : Nat} {p v : AV} : Uni (aStore P t p v) := by
  unfold aStore
  repeat' (first | exact Uni.fail | exact Uni.wr _ _ | refine Uni.bind (Uni.rd _) fun _ => ?_ | split)
theorem uni_new {el : Nat} {cs : List AV} : Uni (aNew el cs) := Uni.bind (Uni.newO _) fun _ => Uni.pure _
theorem uni_buildSlice {t n : Nat} {ps : List (Nat × Operand)} : Uni (aBuildSlice P G A t n ps) := by
  unfold aBuildSlice
  repeat' (first | exact Uni.fail | refine Uni.bind (Uni.newO _) fun _ => Uni.pure _ | split)
theorem uni_makeSlice {t : Nat} {l c : AV} : Uni (aMakeSlice P t l c) := by
  unfold aMakeSlice
  repeat' (first | exact Uni.fail | refine Uni.bind (Uni.newO _) fun _ => Uni.pure _ | split)
theorem uni_slice {t : Nat} {x : Operand} {lo hi mx : Option Operand} : Uni (aSlice P G A t x lo hi mx) := by
  unfold aSlice
  repeat' (first | exact Uni.fail | exact Uni.pure _ | split)
theorem uni_lookup {t : Nat} {x k : AV} {ok : Bool} : Uni (aLookup P en t x k ok) := by
  unfold aLookup
  repeat' (first | exact Uni.fail | exact Uni.pure _ | refine Uni.bind (Uni.rd _) fun _ => ?_ | split)
theorem uni_mapUpdate {t : Nat} {x k v : AV} : Uni (aMapUpdate P en t x k v) := by
  unfold aMapUpdate
  repeat' (first | exact Uni.fail | exact Uni.wr _ _ | refine Uni.bind (Uni.rd _) fun _ => ?_ | split)
theorem uni_mapEntry {t : Nat} {x k : AV} : Uni (aMapEntry P en t x k) := by
  unfold aMapEntry
  repeat' (first | exact Uni.fail | exact Uni.pure _ | refine Uni.bind (Uni.rd _) fun _ => ?_ | refine Uni.bind (Uni.wr _ _) fun _ => ?_ | split)
theorem uni_entryStore {x k v : AV} : Uni (aEntryStore x k v) := by
  unfold aEntryStore
  repeat' (first | exact Uni.fail | exact Uni.wr _ _ | refine Uni.bind (Uni.rd _) fun _ => ?_ | split)
theorem uni_delete {t : Nat} {x k : AV} : Uni (aDelete P en t x k) := by
  unfold aDelete
  repeat' (first | exact Uni.fail | exact Uni.wr _ _ | refine Uni.bind (Uni.rd _) fun _ => ?_ | split)
theorem uni_cells {size n : Nat} {x : AV} : Uni (aCells size n x) := by
  unfold aCells
  repeat' (first | exact Uni.fail | exact Uni.pure _ | refine Uni.bind (Uni.rd _) fun _ => ?_ | split)
theorem uni_over {l k : Nat} {new : List AV} : Uni (aOver l k new) := by
  unfold aOver
  repeat' (first | exact Uni.fail | exact Uni.wr _ _ | refine Uni.bind (Uni.rd _) fun _ => ?_ | split)
theorem uni_grown {el n size : Nat} {cs : List AV} : Uni (aGrown el n size cs) := Uni.bind (Uni.newO _) fun _ => Uni.pure _
theorem uni_append {t : Nat} {xt : Option Nat} {s x : AV} : Uni (aAppend P t xt s x) := by
  unfold aAppend
  repeat' (first | exact Uni.fail | exact Uni.pure _ | exact uni_grown | refine Uni.bind uni_cells fun _ => ?_ | refine Uni.bind uni_over fun _ => ?_ | refine Uni.bind (Uni.rd _) fun _ => ?_ | refine Uni.bind (Uni.wr _ _) fun _ => ?_ | split)
theorem uni_copy {t : Nat} {s x : AV} : Uni (aCopy P t s x) := by
  unfold aCopy
  repeat' (first | exact Uni.fail | exact Uni.pure _ | refine Uni.bind uni_cells fun _ => ?_ | refine Uni.bind uni_over fun _ => ?_ | split)
theorem uni_builtin {b : Builtin} {ts : List TypeId} {args : List AV} {m : EM AV} (h : aBuiltin P en b ts args = some m) : Uni m := by
  unfold aBuiltin at h
  split at h <;> (try split at h) <;> simp only [reduceCtorEq, Option.some.injEq] at h <;> subst h <;>
    first | exact Uni.pure _ | exact Uni.lift _ | exact uni_append | exact uni_copy | exact Uni.bind uni_delete fun _ => Uni.pure _

theorem uni_op {o : Oper} : Uni (aOp P G en A o) := by
  unfold aOp
  repeat' (first | exact Uni.fail | exact Uni.pure _ | exact Uni.lift _ | exact Uni.orG | exact uni_load | exact uni_new | exact uni_buildSlice | exact uni_makeSlice | exact uni_slice | exact uni_lookup | exact uni_mapEntry | refine Uni.emO fun _ => ?_ | refine Uni.bind uni_store fun _ => ?_ | refine Uni.bind uni_mapUpdate fun _ => ?_ | refine Uni.bind uni_entryStore fun _ => ?_ | refine Uni.bind (Uni.newO _) fun _ => ?_ | split)

variable {hook : Hook} {call : FuncId → List AV → EM AV}

theorem uni_enter (hc : ∀ f args, Uni (call f args)) {f : Nat} {args : List AV} : Uni (aEnter P hook call f args) := by
  unfold aEnter
  repeat' (first | exact Uni.fail | exact Uni.pure _ | exact hc _ _ | split)
theorem uni_oper (hc : ∀ f args, Uni (call f args)) {o : Oper} : Uni (aOper P G en hook call A o) := by
  unfold aOper
  split
  · split
    · split
      · exact Uni.fail
      · split
        · rename_i m hm; exact uni_builtin hm
        · exact Uni.lift _
    · repeat' (first | exact Uni.fail | exact Uni.lift _ | exact uni_enter hc | split)
    · exact Uni.fail
  · exact uni_op

theorem put_eq {β : Type} (A : AAct) (dst : Option Nat) (v : AV) (k : Option AAct → β) :
    A.put dst v k = k (match dst with | none => some A | some d => if d < A.N then some ⟨A.N, A.tm.set d v⟩ else none) := by
  unfold AAct.put
  cases dst with
  | none => rfl
  | some d =>
    simp only
    by_cases h : d < A.N
    · rw [if_pos h, show Nat.blt d A.N = true from (Nat.blt_eq (x := d) (y := A.N)).mpr h]; simp only [Tr.setK_eq]
    · rw [if_neg h]
      have : Nat.blt d A.N = false := by
        cases hb : Nat.blt d A.N
        · rfl
        · exact absurd (Nat.le_of_ble_eq_true hb) h
      rw [this]
theorem Uni.put {α : Type} {dst : Option Nat} {v : AV} {k : Option AAct → EM α} (h : ∀ x, Uni (k x)) : Uni (A.put dst v k) := by
  rw [put_eq]; exact h _

theorem uni_ops (hc : ∀ f args, Uni (call f args)) {ops : Array Oper} : ∀ (l : List Oper) (A : AAct), Uni (aOps P G en hook call ops l A)
  | [], A => Uni.pure _
  | o :: rest, A => by
    unfold aOps
    split
    · exact Uni.fail
    · refine Uni.bind (uni_oper hc) fun v => Uni.put fun x => ?_
      cases x with
      | none => exact Uni.fail
      | some A' => exact uni_ops hc rest A'
    · refine Uni.put fun x => ?_
      cases x with
      | none => exact Uni.fail
      | some A' => exact uni_ops hc rest A'

theorem keepLt_eq (wm : Nat) : ∀ (xs r : List (Nat × Bool)), keepLt wm xs r = xs.filter (fun x => decide (x.1 < wm)) ++ r
  | [], r => rfl
  | (l, b) :: xs, r => by
    unfold keepLt
    by_cases h : l < wm
    · rw [show Nat.blt l wm = true from (Nat.blt_eq (x := l) (y := wm)).mpr h]
      simp [h, keepLt_eq wm xs r]
    · have : Nat.blt l wm = false := by
        cases hb : Nat.blt l wm
        · rfl
        · exact absurd (Nat.le_of_ble_eq_true hb) h
      rw [this]
      simp [h, keepLt_eq wm xs r]

theorem Uni.told {α : Type} {m : EM α} (hm : Uni m) : Uni (told m) := by
  intro s a s' h hwm
  unfold Ab.told at h
  split at h
  · simp at h
  · rename_i v s1 hms
    simp only [Option.some.injEq, Prod.mk.injEq] at h
    obtain ⟨rfl, rfl⟩ := h
    obtain ⟨t1, e1, w1, n1, u1, c1, b1, l1⟩ := hm _ _ _ hms (Nat.le_refl _)
    simp only [List.append_nil] at e1
    simp only at w1 n1 u1 c1 b1 l1
    have memf : ∀ l b, (l, b) ∈ t1.filter (fun x => decide (x.1 < s.wm)) ↔ (l, b) ∈ t1 ∧ l < s.wm := by intro l b; simp [List.mem_filter]
    have lg : ∀ l, l < s.n → Logged s.n t1 l → Logged s.wm (t1.filter (fun x => decide (x.1 < s.wm))) l := by
      intro l hl h
      rcases h with h | ⟨b, hb⟩
      · omega
      · by_cases hlt : l < s.wm
        · exact .inr ⟨b, (memf l b).2 ⟨hb, hlt⟩⟩
        · exact .inl (by omega)
    refine ⟨t1.filter (fun x => decide (x.1 < s.wm)), by rw [keepLt_eq, e1], rfl, n1, ?_, c1, fun l b hb => ((memf l b).1 hb).2, ?_⟩
    · intro l hl hn
      refine u1 l (by omega) fun hb => hn ((memf l true).2 ⟨hb, hl⟩)
    · intro H2 lg2 hH
      have hH' : ∀ l, Logged s.n t1 l → H2.get l = s.H.get l := by
        intro l hl
        by_cases hln : l < s.n
        · exact hH l (lg l hln hl)
        · exact hH l (.inl (by omega))
      obtain ⟨H3, r1, a1, o1⟩ := l1 H2 [] hH'
      refine ⟨H3, ?_, ?_, ?_⟩
      · unfold Ab.told
        simp only
        rw [r1]
        simp only [List.append_nil, keepLt_eq, e1]
      · intro l hl
        by_cases h1 : Logged s.n t1 l
        · exact a1 l h1
        · rw [o1 l h1, hH l hl]
          have hln : l < s.n := by
            rcases Nat.lt_or_ge l s.n with h | h
            · exact h
            · exact absurd (.inl h) h1
          exact (u1 l hln (fun hb => h1 (.inr ⟨true, hb⟩))).symm
      · intro l hl
        refine o1 l fun h1 => hl ?_
        by_cases hln : l < s.n
        · exact lg l hln h1
        · exact .inl (by omega)

theorem Uni.again {α : Type} {m : EM α} (hm : Uni m) : Uni (again m) := by
  intro s a s' h hwm
  unfold Ab.again at h
  split at h
  · simp at h
  · rename_i v s1 hms
    simp only [Option.some.injEq, Prod.mk.injEq] at h
    obtain ⟨rfl, rfl⟩ := h
    obtain ⟨t1, e1, w1, n1, u1, c1, b1, l1⟩ := hm _ _ _ hms (Nat.le_refl _)
    simp only [List.append_nil] at e1
    simp only at w1 n1 u1 c1 b1 l1
    have memf : ∀ l b, (l, b) ∈ t1.filter (fun x => decide (x.1 < s.wm)) ↔ (l, b) ∈ t1 ∧ l < s.wm := by intro l b; simp [List.mem_filter]
    have lg : ∀ l, l < s.n → Logged s.n t1 l → Logged s.wm (t1.filter (fun x => decide (x.1 < s.wm))) l := by
      intro l hl h
      rcases h with h | ⟨b, hb⟩
      · omega
      · by_cases hlt : l < s.wm
        · exact .inr ⟨b, (memf l b).2 ⟨hb, hlt⟩⟩
        · exact .inl (by omega)
    refine ⟨t1.filter (fun x => decide (x.1 < s.wm)), by rw [keepLt_eq, e1], rfl, Nat.le_refl _, fun _ _ _ => rfl, fun l o h1 h2 => ?_, fun l b hb => ((memf l b).1 hb).2, ?_⟩
    · simp only at h1 h2; rw [h1] at h2; simp at h2
    · intro H2 lg2 hH
      have hH' : ∀ l, Logged s.n t1 l → H2.get l = s.H.get l := by
        intro l hl
        by_cases hln : l < s.n
        · exact hH l (lg l hln hl)
        · exact hH l (.inl (by omega))
      obtain ⟨H3, r1, a1, o1⟩ := l1 H2 [] hH'
      refine ⟨H2, ?_, fun l hl => hH l hl, fun _ _ => rfl⟩
      unfold Ab.again
      simp only
      rw [r1]
      simp only [List.append_nil, keepLt_eq, e1]

theorem uni_rechecks (hc : ∀ f args, Uni (call f args)) {b k : Nat} : ∀ (l : List Pend), Uni (rechecks P G en hook call b k l)
  | [] => Uni.pure _
  | (r, (A, (o, v))) :: rest => by
    unfold rechecks
    split
    · exact uni_rechecks hc rest
    · refine Uni.bind (Uni.again (uni_oper hc)) fun x => ?_
      obtain ⟨v', t⟩ := x
      simp only
      split
      · exact Uni.bind (uni_rechecks hc rest) fun _ => Uni.pure _
      · exact Uni.fail
theorem uni_rechecksAt (hc : ∀ f args, Uni (call f args)) {o : Oper} {b k : Nat} {l : List Pend} : Uni (rechecksAt P G en hook call o b k l) := by
  unfold rechecksAt
  split
  · exact uni_rechecks hc l
  · exact Uni.pure _

theorem uni_opsD (hc : ∀ f args, Uni (call f args)) {ops : Array Oper} : ∀ (k : Nat) (pend : List Pend) (bs : List Nat) (l : List Oper) (A : AAct), Uni (aOpsD P G en hook call ops k pend bs l A)
  | _, _, _, [], A => Uni.pure _
  | k, pend, bs, o :: rest, A => by
    unfold aOpsD
    split
    · exact Uni.fail
    · refine Uni.bind (Uni.told (uni_oper hc)) fun x => ?_
      obtain ⟨v, t⟩ := x
      refine Uni.put fun x => ?_
      cases x with
      | none => exact Uni.fail
      | some A' => exact Uni.bind (uni_rechecksAt hc) fun _ => Uni.bind (uni_opsD hc _ _ _ rest A') fun _ => Uni.pure _
    · refine Uni.bind (Uni.told (Uni.pure _)) fun x => ?_
      obtain ⟨v, t⟩ := x
      refine Uni.put fun x => ?_
      cases x with
      | none => exact Uni.fail
      | some A' => exact Uni.bind (uni_opsD hc _ _ _ rest A') fun _ => Uni.pure _

theorem uni_region (hc : ∀ f args, Uni (call f args)) {ops : Array Oper} {d : Bool} : Uni (aRegion P G en hook call ops d A) := by
  unfold aRegion
  split
  · exact uni_ops hc _ _
  · split
    · exact Uni.fail
    · refine Uni.bind (uni_opsD hc _ _ _ _ _) fun x => ?_
      obtain ⟨A', ts, ods⟩ := x
      simp only
      split
      · exact Uni.pure _
      · exact Uni.fail

theorem uni_code (hc : ∀ f args, Uni (call f args)) : ∀ (L : Nat) (sc : Option Code) (c : Code) (A : AAct), Uni (aCode P G en hook call L sc c A)
  | 0, _, _, _ => by unfold aCode; exact Uni.fail
  | L + 1, some body, c, A => by
    unfold aCode
    refine Uni.bind (uni_code hc L none c A) fun x => ?_
    obtain ⟨x, A'⟩ := x
    simp only
    repeat' (first | exact Uni.fail | exact Uni.pure _ | exact uni_code hc L _ _ _ | split)
  | L + 1, none, c, A => by
    unfold aCode
    cases c with
    | seq x y =>
      refine Uni.bind (uni_code hc L none _ A) fun x => ?_
      obtain ⟨x, A'⟩ := x
      simp only
      repeat' (first | exact Uni.fail | exact Uni.pure _ | exact uni_code hc L _ _ _ | split)
    | block i body =>
      refine Uni.bind (uni_code hc L none _ A) fun x => ?_
      obtain ⟨x, A'⟩ := x
      simp only
      repeat' (first | exact Uni.fail | exact Uni.pure _ | exact uni_code hc L _ _ _ | split)
    | loop body =>
      refine Uni.bind (uni_code hc L none _ A) fun x => ?_
      obtain ⟨x, A'⟩ := x
      simp only
      repeat' (first | exact Uni.fail | exact Uni.pure _ | exact uni_code hc L _ _ _ | split)
    | region i ops d => exact Uni.bind (uni_region hc) fun _ => Uni.pure _
    | cond c t e =>
      simp only
      repeat' (first | exact Uni.fail | exact Uni.pure _ | exact uni_code hc L _ _ _ | split)
    | scope body => exact uni_code hc L _ _ _
    | skip => exact Uni.pure _
    | label l => exact Uni.pure _
    | exit i => exact Uni.pure _
    | goto i => exact Uni.pure _
    | ret => exact Uni.pure _
    | rangeFunc f p x y => exact Uni.fail
    | refuse w => exact Uni.fail

theorem uni_results : ∀ (l : List ResultVar), Uni (aResults P A l)
  | [] => Uni.pure _
  | r :: rs => by
    unfold aResults
    refine Uni.bind ?_ fun v => Uni.bind (uni_results rs) fun vs => Uni.pure _
    unfold aResult
    split
    · exact Uni.pure _
    · exact uni_load

theorem uni_body (hc : ∀ f args, Uni (call f args)) {L f : Nat} {args : List AV} : Uni (aBody P G en hook L call f args) := by
  unfold aBody
  split
  · exact Uni.fail
  · split
    · exact Uni.fail
    · refine Uni.bind (uni_code hc _ _ _ _) fun x => ?_
      obtain ⟨x, A'⟩ := x
      simp only
      split
      · exact Uni.bind (uni_results _) fun _ => Uni.pure _
      · exact Uni.bind (uni_results _) fun _ => Uni.pure _
      · exact Uni.fail

theorem aFun_zero {L : Nat} (f : FuncId) (args : List AV) : aFun P G en hook L 0 f args = EM.fail := rfl
theorem aFun_succ {L D : Nat} (f : FuncId) (args : List AV) : aFun P G en hook L (D + 1) f args = aBody P G en hook L (aFun P G en hook L D) f args := rfl

theorem uni_fun {L : Nat} : ∀ (D f : Nat) (args : List AV), Uni (aFun P G en hook L D f args)
  | 0, f, args => by rw [aFun_zero]; exact Uni.fail
  | D + 1, f, args => by rw [aFun_succ]; exact uni_body (fun f args => uni_fun D f args)
end
end Go.Ab
