/-
  A REGION WHOSE ORDER IS DRAWN: the reckoning does its operations in the order of the text, and tells what each looked at; where operations of which none lies ahead of the other do not meet, every order comes to the same.
-/
import Derived.Test.YtldjfokgfapkiaaGreatDoorAbCode
namespace Go.Ab

/- which operations lie ahead -/
theorem before_spec (ops : Array Oper) : ∃ bs : List Nat, (Region.before ops).toList = bs ∧ bs.length = ops.size ∧
    ∀ j o, ops[j]? = some o → (∀ e ∈ o.after, Region.binds .any e = true → e.on < j) → ∀ i, (bs.getD j 0).testBit i = true →
      ∃ e ∈ o.after, Region.binds .any e = true ∧ (i = e.on ∨ (bs.getD e.on 0).testBit i = true) := by
  let step : Array Nat → Oper → Array Nat := fun acc o =>
    acc.push (o.after.foldl (fun s e => if Region.binds .any e then s ||| 2 ^ e.on ||| acc.getD e.on 0 else s) 0)
  have hdef : Region.before ops = ops.toList.foldl step #[] := by
    unfold Region.before
    rw [← Array.foldl_toList]
  have fold : ∀ (acc : Array Nat) (l : List Edge) (s i : Nat), (l.foldl (fun s e => if Region.binds .any e then s ||| 2 ^ e.on ||| acc.getD e.on 0 else s) s).testBit i = true →
      s.testBit i = true ∨ ∃ e ∈ l, Region.binds .any e = true ∧ (i = e.on ∨ (acc.getD e.on 0).testBit i = true) := by
    intro acc l
    induction l with
    | nil => intro s i h; exact .inl h
    | cons e r ih =>
      intro s i h
      simp only [List.foldl_cons] at h
      rcases ih _ i h with h | ⟨e', he', h1, h2⟩
      · split at h
        · rename_i hb
          simp only [Nat.testBit_or, Bool.or_eq_true] at h
          rcases h with (h | h) | h
          · exact .inl h
          · rw [Nat.testBit_two_pow] at h
            exact .inr ⟨e, by simp, hb, .inl (by simpa using (of_decide_eq_true h).symm)⟩
          · exact .inr ⟨e, by simp, hb, .inr h⟩
        · exact .inl h
      · exact .inr ⟨e', by simp [he'], h1, h2⟩
  have key : ∀ (l : List Oper) (acc : Array Nat) (pre : List Oper), acc.size = pre.length →
      (∀ j o, pre[j]? = some o → (∀ e ∈ o.after, Region.binds .any e = true → e.on < j) → ∀ i, (acc.getD j 0).testBit i = true →
        ∃ e ∈ o.after, Region.binds .any e = true ∧ (i = e.on ∨ (acc.getD e.on 0).testBit i = true)) →
      (l.foldl step acc).size = (pre ++ l).length ∧ ∀ j o, (pre ++ l)[j]? = some o → (∀ e ∈ o.after, Region.binds .any e = true → e.on < j) → ∀ i, ((l.foldl step acc).getD j 0).testBit i = true →
        ∃ e ∈ o.after, Region.binds .any e = true ∧ (i = e.on ∨ ((l.foldl step acc).getD e.on 0).testBit i = true) := by
    intro l
    induction l with
    | nil => intro acc pre hs h; exact ⟨by simpa using hs, by rw [List.append_nil]; exact h⟩
    | cons x r ih =>
      intro acc pre hs h
      have := ih (step acc x) (pre ++ [x]) (by simp [step, hs]) (by
        intro j o hj hlt i hi
        by_cases hjl : j < pre.length
        · rw [List.getElem?_append_left hjl] at hj
          have e1 : (step acc x).getD j 0 = acc.getD j 0 := by
            simp only [step, Array.getD_eq_getD_getElem?, Array.getElem?_push]
            rw [if_neg (by omega)]
          rw [e1] at hi
          obtain ⟨e, he, hb, hor⟩ := h j o hj hlt i hi
          refine ⟨e, he, hb, hor.imp id fun h2 => ?_⟩
          have hlt' := hlt e he hb
          have e2 : (step acc x).getD e.on 0 = acc.getD e.on 0 := by
            simp only [step, Array.getD_eq_getD_getElem?, Array.getElem?_push]
            rw [if_neg (by omega)]
          rw [e2]; exact h2
        · rw [List.getElem?_append_right (by omega)] at hj
          have hjeq : j = pre.length := by
            rcases Nat.lt_or_ge pre.length j with h' | h'
            · rw [List.getElem?_eq_none (by simp; omega)] at hj; simp at hj
            · omega
          subst hjeq
          simp only [Nat.sub_self, List.getElem?_cons_zero, Option.some.injEq] at hj
          subst hj
          have e1 : (step acc x).getD pre.length 0 = x.after.foldl (fun s e => if Region.binds .any e then s ||| 2 ^ e.on ||| acc.getD e.on 0 else s) 0 := by
            simp only [step, Array.getD_eq_getD_getElem?, Array.getElem?_push]
            rw [if_pos (by omega)]
            rfl
          rw [e1, ← Array.foldl_toList] at hi
          rcases fold acc _ 0 i hi with h0 | ⟨e, he, hb, hor⟩
          · simp at h0
          · refine ⟨e, by simpa using he, hb, hor.imp id fun h2 => ?_⟩
            have hlt' := hlt e (by simpa using he) hb
            have e2 : (step acc x).getD e.on 0 = acc.getD e.on 0 := by
              simp only [step, Array.getD_eq_getD_getElem?, Array.getElem?_push]
              rw [if_neg (by omega)]
            rw [e2]; exact h2)
      simp only [List.foldl_cons]
      simpa [List.append_assoc] using this
  obtain ⟨h1, h2⟩ := key ops.toList #[] [] rfl (by intro j o h; simp at h)
  rw [← hdef] at h1 h2
  refine ⟨_, rfl, by simpa using h1, fun j o hj hlt i hi => ?_⟩
  have conv : ∀ k, (Region.before ops).toList.getD k 0 = (Region.before ops).getD k 0 := fun k => by
    simp [List.getD, Array.getD_eq_getD_getElem?]
  rw [conv] at hi
  obtain ⟨e, he, hb, hor⟩ := h2 j o (by simpa using hj) hlt i hi
  exact ⟨e, he, hb, by rw [conv]; exact hor⟩

/-- Edges go back. -/
def Back (ops : Array Oper) : Prop := ∀ j o, ops[j]? = some o → ∀ e ∈ o.after, Region.binds .any e = true → e.on < j

theorem okRegion_spec {ops : Array Oper} (h : okRegion ops = true) : Back ops ∧ apartAll ops 0 ops.toList (Region.before ops).toList = true := by
  simp only [okRegion, aheadOf, Bool.and_eq_true] at h
  refine ⟨fun j o hj e he hb => ?_, h.2.1⟩
  have h2 := h.2.2
  rw [List.all_eq_true] at h2
  have hj' : ops.toList[j]? = some o := by simpa using hj
  have := h2 (o, j) (by
    rw [List.mem_iff_getElem?]
    exact ⟨j, by simp [List.getElem?_zipIdx, hj]⟩)
  simp only [Array.all_eq_true_iff_forall_mem, Bool.or_eq_true, Bool.not_eq_true'] at this
  rcases this e he with h3 | h3
  · rw [hb] at h3; simp at h3
  · exact Nat.le_of_ble_eq_true h3

/-- What is done is closed under what lies ahead. -/
def Closed (ops : Array Oper) (S : Nat → Bool) : Prop := ∀ j o, ops[j]? = some o → S j = true → ∀ e ∈ o.after, Region.binds .any e = true → S e.on = true

theorem ahead_done {ops : Array Oper} {S : Nat → Bool} (hb : Back ops) (hS : Closed ops S) : ∀ j o, ops[j]? = some o → (∀ e ∈ o.after, Region.binds .any e = true → S e.on = true) →
    ∀ i, ((Region.before ops).toList.getD j 0).testBit i = true → S i = true := by
  obtain ⟨bs, e0, hl, hsp⟩ := before_spec ops
  rw [e0]
  intro j
  induction j using Nat.strongRecOn with
  | _ j ih =>
    intro o hj he i hi
    obtain ⟨e, hem, hbd, hor⟩ := hsp j o hj (hb j o hj) i hi
    rcases hor with rfl | hor
    · exact he e hem hbd
    · have hlt := hb j o hj e hem hbd
      cases hoe : ops[e.on]? with
      | none =>
        have : ops.size ≤ e.on := by
          rcases Nat.lt_or_ge e.on ops.size with h | h
          · rw [Array.getElem?_eq_getElem h] at hoe; simp at hoe
          · exact h
        rw [List.getD_eq_getElem?_getD, List.getElem?_eq_none (by omega)] at hor
        simp at hor
      | some o' => exact ih e.on hlt o' hoe (hS e.on o' hoe (he e hem hbd)) i hor

/- the two looks at pairs -/
theorem apartOf_spec {ops : Array Oper} {i : Nat} {x : Oper} : ∀ {l : List Oper} {bs : List Nat}, apartOf ops i x l bs = true →
    ∀ (k : Nat) y, l[k]? = some y → (bs.getD k 0).testBit i = true ∨ x.apart ops y = true
  | [], bs, _, k, y, hk => by simp at hk
  | z :: r, [], h, k, y, hk => by simp [apartOf] at h
  | z :: r, b :: bs, h, k, y, hk => by
    simp only [apartOf, Bool.and_eq_true, Bool.or_eq_true] at h
    cases k with
    | zero => simp at hk; subst hk; simpa using h.1
    | succ k => simpa using apartOf_spec h.2 k y (by simpa using hk)
theorem apartAll_spec {ops : Array Oper} : ∀ {l : List Oper} {bs : List Nat} {i0 : Nat}, apartAll ops i0 l bs = true →
    ∀ (i j : Nat) x y, i < j → l[i]? = some x → l[j]? = some y → (bs.getD j 0).testBit (i0 + i) = true ∨ x.apart ops y = true
  | [], bs, i0, _, i, j, x, y, _, hi, _ => by simp at hi
  | z :: r, [], i0, h, i, j, x, y, _, _, _ => by simp [apartAll] at h
  | z :: r, b :: bs, i0, h, i, j, x, y, hlt, hi, hj => by
    simp only [apartAll, Bool.and_eq_true] at h
    cases j with
    | zero => omega
    | succ j =>
      cases i with
      | zero => simp at hi; subst hi; simpa using apartOf_spec h.1 j y (by simpa using hj)
      | succ i => simpa [Nat.add_assoc, Nat.add_comm 1] using apartAll_spec h.2 i j x y (by omega) (by simpa using hi) (by simpa using hj)
theorem hasOdd_spec {i j : Nat} : ∀ {l : List Odd}, hasOdd i j l = true → ∃ t, (i, (j, t)) ∈ l
  | [], h => by simp [hasOdd] at h
  | (r, (k, t)) :: l, h => by
    simp only [hasOdd, Bool.or_eq_true, Bool.and_eq_true] at h
    rcases h with ⟨h1, h2⟩ | h
    · rw [Nat.eq_of_beq_eq_true h1, Nat.eq_of_beq_eq_true h2]; exact ⟨t, by simp⟩
    · obtain ⟨t, ht⟩ := hasOdd_spec h; exact ⟨t, by simp [ht]⟩
theorem freeOf_spec {ods : List Odd} {i : Nat} {x : Told} : ∀ {l : List Told} {bs : List Nat} {j0 : Nat}, freeOf ods i x j0 l bs = true →
    ∀ (k : Nat) y, l[k]? = some y → (bs.getD k 0).testBit i = true ∨ free2 x y = true ∨ ∃ t, (i, (j0 + k, t)) ∈ ods
  | [], bs, _, _, k, y, hk => by simp at hk
  | z :: r, [], _, h, k, y, hk => by simp [freeOf] at h
  | z :: r, b :: bs, j0, h, k, y, hk => by
    simp only [freeOf, Bool.and_eq_true, Bool.or_eq_true] at h
    cases k with
    | zero =>
      simp at hk; subst hk
      rcases h.1 with h1 | h1 | h1
      · exact .inl (by simpa using h1)
      · exact .inr (.inl h1)
      · exact .inr (.inr (by simpa using hasOdd_spec h1))
    | succ k => simpa [Nat.add_assoc, Nat.add_comm 1] using freeOf_spec h.2 k y (by simpa using hk)
theorem freeAll_spec {ods : List Odd} : ∀ {l : List Told} {bs : List Nat} {i0 : Nat}, freeAll ods i0 l bs = true →
    ∀ (i j : Nat) x y, i < j → l[i]? = some x → l[j]? = some y → (bs.getD j 0).testBit (i0 + i) = true ∨ free2 x y = true ∨ ∃ t, (i0 + i, (i0 + j, t)) ∈ ods
  | [], bs, i0, _, i, j, x, y, _, hi, _ => by simp at hi
  | z :: r, [], i0, h, i, j, x, y, _, _, _ => by simp [freeAll] at h
  | z :: r, b :: bs, i0, h, i, j, x, y, hlt, hi, hj => by
    simp only [freeAll, Bool.and_eq_true] at h
    cases j with
    | zero => omega
    | succ j =>
      cases i with
      | zero => simp at hi; subst hi; simpa [Nat.add_assoc, Nat.add_comm 1] using freeOf_spec h.1 j y (by simpa using hj)
      | succ i => simpa [Nat.add_assoc, Nat.add_comm 1] using freeAll_spec h.2 i j x y (by omega) (by simpa using hi) (by simpa using hj)

theorem hasLog_of {l : Nat} {b c : Bool} : ∀ {xs : List (Nat × Bool)}, (l, c) ∈ xs → (c || b) = true → hasLog l b xs = true
  | [], h, _ => by simp at h
  | (k, d) :: r, h, hb => by
    unfold hasLog
    rcases List.mem_cons.1 h with h | h
    · simp only [Prod.mk.injEq] at h
      obtain ⟨rfl, rfl⟩ := h
      simp [hb]
    · rw [hasLog_of h hb]; simp
theorem meets_of {l : Nat} {b c : Bool} {ys : List (Nat × Bool)} (hy : (l, c) ∈ ys) (hb : (c || b) = true) : ∀ {xs : List (Nat × Bool)}, (l, b) ∈ xs → meets xs ys = true
  | [], h => by simp at h
  | (k, d) :: r, h => by
    unfold meets
    rcases List.mem_cons.1 h with h | h
    · simp only [Prod.mk.injEq] at h
      obtain ⟨rfl, rfl⟩ := h
      rw [hasLog_of hy hb]; rfl
    · rw [meets_of hy hb h]; simp
theorem within_of {a b l : Nat} {c : Bool} (h1 : a ≤ l) (h2 : l < b) : ∀ {xs : List (Nat × Bool)}, (l, c) ∈ xs → within a b xs = true
  | [], h => by simp at h
  | (k, d) :: r, h => by
    unfold within
    rcases List.mem_cons.1 h with h | h
    · simp only [Prod.mk.injEq] at h
      obtain ⟨rfl, rfl⟩ := h
      rw [Nat.ble_eq_true_of_le h1, show Nat.blt l b = true from (Nat.blt_eq (x := l) (y := b)).mpr h2]; rfl
    · rw [within_of h1 h2 h]; simp

/-- Two operations that do not meet. -/
theorem free2_spec {x y : Told} (h : free2 x y = true) :
    (∀ l b c, (l, b) ∈ x.2.1 → (l, c) ∈ y.2.1 → b = false ∧ c = false) ∧ ∀ l c, (l, c) ∈ y.2.1 → ¬ (x.1 ≤ l ∧ l < x.2.2) := by
  simp only [free2, Bool.and_eq_true, Bool.not_eq_true'] at h
  constructor
  · intro l b c hb hc
    by_cases hbc : (c || b) = true
    · rw [meets_of hc hbc hb] at h; simp at h
    · simp at hbc; exact ⟨hbc.2, hbc.1⟩
  · rintro l c hc ⟨h1, h2⟩
    rw [within_of h1 h2 hc] at h; simp at h
theorem noWrites_spec : ∀ {l : List (Nat × Bool)}, noWrites l = true → ∀ p, (p, true) ∉ l
  | [], _, p, h => by simp at h
  | (q, b) :: r, hn, p, h => by
    simp only [noWrites, Bool.and_eq_true, Bool.not_eq_true'] at hn
    rcases List.mem_cons.1 h with h | h
    · simp only [Prod.mk.injEq] at h; rw [← h.2] at hn; simp at hn
    · exact noWrites_spec hn.2 p h
theorem hasLog_true {l : Nat} : ∀ {xs : List (Nat × Bool)}, hasLog l true xs = true → ∃ b, (l, b) ∈ xs
  | [], h => by simp [hasLog] at h
  | (k, c) :: r, h => by
    simp only [hasLog, Bool.or_eq_true, Bool.and_eq_true] at h
    rcases h with ⟨h1, _⟩ | h
    · rw [← Nat.eq_of_beq_eq_true h1]; exact ⟨c, by simp⟩
    · obtain ⟨b, hb⟩ := hasLog_true h; exact ⟨b, by simp [hb]⟩
theorem subLog_spec {xs : List (Nat × Bool)} : ∀ {l : List (Nat × Bool)}, subLog l xs = true → ∀ p b, (p, b) ∈ l → ∃ c, (p, c) ∈ xs
  | [], _, p, b, h => by simp at h
  | (q, d) :: r, hs, p, b, h => by
    simp only [subLog, Bool.and_eq_true] at hs
    rcases List.mem_cons.1 h with h | h
    · simp only [Prod.mk.injEq] at h; rw [h.1]; exact hasLog_true hs.1
    · exact subLog_spec hs.2 p b h
theorem noneBetween_spec {x : List (Nat × Bool)} : ∀ {l : List Told}, noneBetween x l = true → ∀ y ∈ l, ∀ p b, (p, b) ∈ x → (p, true) ∉ y.2.1
  | [], _, y, hy, _, _, _, _ => by simp at hy
  | z :: r, h, y, hy, p, b, hp, hw => by
    simp only [noneBetween, Bool.and_eq_true, Bool.not_eq_true'] at h
    rcases List.mem_cons.1 hy with rfl | hy
    · rw [meets_of hw (by simp) hp] at h; simp at h
    · exact noneBetween_spec h.2 y hy p b hp hw

/-- What is checked of a reader that may be overtaken. -/
structure OddFine (ts : List Told) (r k : Nat) (t : Told) : Prop where
  is : ∃ x, ts[r]? = some x ∧ (∀ p, (p, true) ∉ x.2.1) ∧ x.1 = x.2.2 ∧ ∀ p b, (p, b) ∈ t.2.1 → ∃ c, (p, c) ∈ x.2.1
  quiet : ∀ p, (p, true) ∉ t.2.1
  same : t.1 = t.2.2
  lt : r < k
  between : ∀ x, ts[r]? = some x → ∀ j y, r < j → j < k → ts[j]? = some y → ∀ p b, (p, b) ∈ x.2.1 → (p, true) ∉ y.2.1

theorem oddFine_spec {ts : List Told} {r k : Nat} {t : Told} (h : oddFine ts (r, (k, t)) = true) : OddFine ts r k t := by
  simp only [oddFine] at h
  split at h
  · simp at h
  · rename_i x hx
    simp only [Bool.and_eq_true] at h
    obtain ⟨h1, h2, h3, h4, h5, h6, h7⟩ := h
    refine ⟨⟨x, hx, noWrites_spec h1, Nat.eq_of_beq_eq_true h2, subLog_spec h5⟩, noWrites_spec h3, Nat.eq_of_beq_eq_true h4, by simpa [Nat.blt_eq] using h6, ?_⟩
    intro x' hx' j y hj hjk hy p b hp
    rw [hx] at hx'
    simp only [Option.some.injEq] at hx'
    subst hx'
    refine noneBetween_spec h7 y ?_ p b hp
    refine List.mem_iff_getElem?.2 ⟨j - (r + 1), ?_⟩
    rw [List.getElem?_drop, List.getElem?_take, if_pos (by omega), show r + 1 + (j - (r + 1)) = j by omega, hy]
theorem hasReader_of {r : Nat} {y : Nat × Told} : ∀ {l : List Odd}, (r, y) ∈ l → hasReader r l = true
  | [], h => by simp at h
  | (q, z) :: l, h => by
    rcases List.mem_cons.1 h with h | h
    · simp only [Prod.mk.injEq] at h; simp [hasReader, h.1]
    · simp [hasReader, hasReader_of h]
theorem oddsFine_spec {ts : List Told} : ∀ {l : List Odd}, oddsFine ts l = true → (∀ r k t, (r, (k, t)) ∈ l → OddFine ts r k t) ∧ ∀ r y z, (r, y) ∈ l → (r, z) ∈ l → y = z
  | [], _ => ⟨fun _ _ _ h => by simp at h, fun _ _ _ h => by simp at h⟩
  | (q, (k', t')) :: l, h => by
    simp only [oddsFine, Bool.and_eq_true, Bool.not_eq_true'] at h
    obtain ⟨h1, h2, h3⟩ := h
    obtain ⟨i1, i2⟩ := oddsFine_spec h3
    refine ⟨fun r k t hm => ?_, fun r y z hy hz => ?_⟩
    · rcases List.mem_cons.1 hm with hm | hm
      · simp only [Prod.mk.injEq] at hm
        obtain ⟨rfl, rfl, rfl⟩ := hm
        exact oddFine_spec h1
      · exact i1 r k t hm
    · rcases List.mem_cons.1 hy with hy | hy <;> rcases List.mem_cons.1 hz with hz | hz
      · simp only [Prod.mk.injEq] at hy hz; rw [hy.2, hz.2]
      · simp only [Prod.mk.injEq] at hy
        rw [← hy.1, hasReader_of hz] at h2; simp at h2
      · simp only [Prod.mk.injEq] at hz
        rw [← hz.1, hasReader_of hy] at h2; simp at h2
      · exact i2 r y z hy hz

theorem avSame_rel {ρ : Nat → Int} {φ : PM} {x y : AV} {u : Value} (h : avSame x y = true) (hx : VRel ρ φ x u) : VRel ρ φ y u := by
  unfold avSame at h
  split at h
  · simp only [Bool.and_eq_true, decide_eq_true_eq] at h
    obtain ⟨rfl, h2⟩ := h
    cases hx with
    | int _ _ n hn => exact .int _ _ _ (by rw [← siEq_ok _ _ h2]; exact hn)
  · simp only [beq_iff_eq] at h; subst h; exact hx
  · exact hx
  · exact hx
  · simp at h
end Go.Ab
