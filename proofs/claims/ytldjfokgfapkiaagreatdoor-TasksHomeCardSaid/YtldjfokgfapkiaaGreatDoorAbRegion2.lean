/-
  A REGION WHOSE ORDER IS DRAWN, second part: the theorem.
-/
import Derived.Test.YtldjfokgfapkiaaGreatDoorAbRegion
namespace Go.Ab

section
variable {P : Program} {B : Nat} {ρ : Nat → Int} {en : Env} {G : Nat} {hook : Hook} {call : FuncId → List AV → EM AV}

noncomputable def putOf (A : AAct) (dst : Option Nat) (v : AV) : Option AAct :=
  match dst with
  | none => some A
  | some d => if d < A.N then some ⟨A.N, A.tm.set d v⟩ else none

/-- What the reckoning of one operation of a region shows. -/
structure Rec (P : Program) (G : Nat) (en : Env) (hook : Hook) (call : FuncId → List AV → EM AV) (ops : Array Oper) (o : Oper) (A A' : AAct) (s s' : St) (v : AV) (wt : Bool) (t : Told) : Prop where
  want : aWanted ops A o = some wt
  start : t.1 = s.n
  stop : t.2.2 = s'.n
  yes : wt = true → ∃ lg, aOper P G en hook call A o ⟨s.H, s.n, s.n, []⟩ = some (v, ⟨s'.H, s'.n, s.n, lg⟩) ∧ t.2.1 = lg
  no : wt = false → v = undefAV ∧ t.2.1 = [] ∧ s'.H = s.H ∧ s'.n = s.n
  put : putOf A o.dst v = some A'

/-- Once more, in another state. -/
def Alt (P : Program) (G : Nat) (en : Env) (hook : Hook) (call : FuncId → List AV → EM AV) (A : AAct) (o : Oper) (v : AV) (s : St) (t : Told) : Prop :=
  ∃ v' s', aOper P G en hook call A o ⟨s.H, s.n, s.n, []⟩ = some (v', s') ∧ avSame v' v = true ∧ t = (s.n, (s'.log, s'.n))

theorem rechecks_spec {b k : Nat} : ∀ {l : List Pend} {s s' : St} {ods : List Odd}, rechecks P G en hook call b k l s = some (ods, s') →
    s'.H = s.H ∧ s'.n = s.n ∧ s'.wm = s.wm ∧ ∀ r w t, (r, (w, t)) ∈ ods → w = k ∧ ∃ A o v, (r, (A, (o, v))) ∈ l ∧ Alt P G en hook call A o v s t
  | [], s, s', ods, h => by
    obtain ⟨rfl, rfl⟩ := pure_spec h
    exact ⟨rfl, rfl, rfl, fun _ _ _ h => by simp at h⟩
  | (q, (A, (o, v))) :: rest, s, s', ods, h => by
    unfold rechecks at h
    rcases hb : Nat.testBit b q || !isLook o with _ | _ <;> rw [hb] at h <;> dsimp only at h
    rotate_left
    · obtain ⟨h1, h2, h3, h4⟩ := rechecks_spec h
      refine ⟨h1, h2, h3, fun r w t hm => ?_⟩
      obtain ⟨e, A', o', v', hm', hA⟩ := h4 r w t hm
      exact ⟨e, A', o', v', by simp [hm'], hA⟩
    · obtain ⟨x, s1, h1, h2⟩ := bind_spec h
      obtain ⟨v1, t1⟩ := x
      dsimp only at h2
      unfold again at h1
      split at h1
      · simp at h1
      · rename_i v2 sx hsx
        simp only [Option.some.injEq, Prod.mk.injEq] at h1
        obtain ⟨⟨rfl, rfl⟩, rfl⟩ := h1
        rcases hsame : avSame v2 v with _ | _ <;> rw [hsame] at h2 <;> dsimp only at h2
        rotate_left
        · obtain ⟨ods2, s2, h3, h4⟩ := bind_spec h2
          obtain ⟨rfl, rfl⟩ := pure_spec h4
          obtain ⟨k1, k2, k3, k4⟩ := rechecks_spec h3
          refine ⟨k1, k2, k3, fun r w t hm => ?_⟩
          rcases List.mem_cons.1 hm with hm | hm
          · simp only [Prod.mk.injEq] at hm
            obtain ⟨rfl, rfl, rfl⟩ := hm
            exact ⟨rfl, A, o, v, by simp, _, _, hsx, hsame, rfl⟩
          · obtain ⟨e, A', o', v', hm', hA⟩ := k4 r w t hm
            exact ⟨e, A', o', v', by simp [hm'], hA⟩
        · exact (fail_spec h2).elim
theorem rechecksAt_spec {o : Oper} {b k : Nat} {l : List Pend} {s s' : St} {ods : List Odd} (h : rechecksAt P G en hook call o b k l s = some (ods, s')) :
    s'.H = s.H ∧ s'.n = s.n ∧ s'.wm = s.wm ∧ ∀ r w t, (r, (w, t)) ∈ ods → w = k ∧ ∃ A o v, (r, (A, (o, v))) ∈ l ∧ Alt P G en hook call A o v s t := by
  unfold rechecksAt at h
  cases he : isEntry o <;> rw [he] at h <;> dsimp only at h
  rotate_left
  · exact rechecks_spec h
  · obtain ⟨rfl, rfl⟩ := pure_spec h
    exact ⟨rfl, rfl, rfl, fun _ _ _ h => by simp at h⟩

theorem Alt.congr {A : AAct} {o : Oper} {v : AV} {s s1 : St} {t : Told} (h : Alt P G en hook call A o v s t) (h1 : s1.H = s.H) (h2 : s1.n = s.n) : Alt P G en hook call A o v s1 t := by
  obtain ⟨v', s', e1, e2, e3⟩ := h
  exact ⟨v', s', by rw [h1, h2]; exact e1, e2, by rw [h2]; exact e3⟩

/-- The trace of a region. -/
theorem trace (hc : ∀ f args, Uni (call f args)) {ops : Array Oper} : ∀ (l : List Oper) (k : Nat) (pend : List Pend) (bs : List Nat) (A A' : AAct) (s s' : St) (ts : List Told) (ods : List Odd),
    aOpsD P G en hook call ops k pend bs l A s = some ((A', (ts, ods)), s') →
    ∃ (AS : Nat → AAct) (SS : Nat → St) (VS : Nat → AV) (WS : Nat → Bool), AS 0 = A ∧ SS 0 = s ∧ AS l.length = A' ∧ SS l.length = s' ∧ ts.length = l.length ∧
      (∀ i o, l[i]? = some o → ∃ t, ts[i]? = some t ∧ Rec P G en hook call ops o (AS i) (AS (i + 1)) (SS i) (SS (i + 1)) (VS i) (WS i) t) ∧
      ∀ r w t, (r, (w, t)) ∈ ods → ∃ i, w = k + i ∧ i < l.length ∧
        ((∃ i' o, i' < i ∧ r = k + i' ∧ l[i']? = some o ∧ WS i' = true ∧ Alt P G en hook call (AS i') o (VS i') (SS (i + 1)) t) ∨
         ∃ A o v, (r, (A, (o, v))) ∈ pend ∧ Alt P G en hook call A o v (SS (i + 1)) t)
  | [], k, pend, bs, A, A', s, s', ts, ods, h => by
    obtain ⟨e, rfl⟩ := pure_spec h
    simp only [Prod.mk.injEq] at e
    obtain ⟨rfl, rfl, rfl⟩ := e
    exact ⟨fun _ => A', fun _ => s', fun _ => undefAV, fun _ => false, rfl, rfl, rfl, rfl, rfl, fun i o h => by simp at h, fun _ _ _ h => by simp at h⟩
  | o :: rest, k, pend, bs, A, A', s, s', ts, ods, h => by
    unfold aOpsD at h
    have finish : ∀ (v : AV) (wt : Bool) (t : Told) (A1 : AAct) (s1 : St) (ts1 : List Told) (od ods1 : List Odd) (pend1 : List Pend), Rec P G en hook call ops o A A1 s s1 v wt t → ts = t :: ts1 → ods = od ++ ods1 →
        (∀ r w t, (r, (w, t)) ∈ od → w = k ∧ ∃ A o v, (r, (A, (o, v))) ∈ pend ∧ Alt P G en hook call A o v s1 t) →
        (∀ p ∈ pend1, p ∈ pend ∨ (wt = true ∧ p = (k, (A, (o, v))))) →
        aOpsD P G en hook call ops (k + 1) pend1 bs.tail rest A1 s1 = some ((A', (ts1, ods1)), s') →
        ∃ (AS : Nat → AAct) (SS : Nat → St) (VS : Nat → AV) (WS : Nat → Bool), AS 0 = A ∧ SS 0 = s ∧ AS (o :: rest).length = A' ∧ SS (o :: rest).length = s' ∧ ts.length = (o :: rest).length ∧
          (∀ i o', (o :: rest)[i]? = some o' → ∃ t, ts[i]? = some t ∧ Rec P G en hook call ops o' (AS i) (AS (i + 1)) (SS i) (SS (i + 1)) (VS i) (WS i) t) ∧
          ∀ r w t, (r, (w, t)) ∈ ods → ∃ i, w = k + i ∧ i < (o :: rest).length ∧
            ((∃ i' o', i' < i ∧ r = k + i' ∧ (o :: rest)[i']? = some o' ∧ WS i' = true ∧ Alt P G en hook call (AS i') o' (VS i') (SS (i + 1)) t) ∨
             ∃ A o v, (r, (A, (o, v))) ∈ pend ∧ Alt P G en hook call A o v (SS (i + 1)) t) := by
      intro v wt t A1 s1 ts1 od ods1 pend1 hrec hts hods hod hpend hrest
      obtain ⟨AS, SS, VS, WS, e1, e2, e3, e4, e5, e6, e7⟩ := trace hc rest (k + 1) pend1 bs.tail A1 A' s1 s' ts1 ods1 hrest
      refine ⟨fun i => match i with | 0 => A | i + 1 => AS i, fun i => match i with | 0 => s | i + 1 => SS i, fun i => match i with | 0 => v | i + 1 => VS i, fun i => match i with | 0 => wt | i + 1 => WS i,
        rfl, rfl, by simpa using e3, by simpa using e4, by rw [hts]; simp [e5], fun i o' hi => ?_, fun r w t1 hm => ?_⟩
      · cases i with
        | zero =>
          simp at hi
          subst hi
          exact ⟨t, by rw [hts]; rfl, by simp only; rw [e1, e2]; exact hrec⟩
        | succ i =>
          obtain ⟨t', ht', hr⟩ := e6 i o' (by simpa using hi)
          exact ⟨t', by rw [hts]; simpa using ht', hr⟩
      · rw [hods] at hm
        rcases List.mem_append.1 hm with hm | hm
        · obtain ⟨rfl, A2, o2, v2, hm2, hA⟩ := hod r w t1 hm
          exact ⟨0, rfl, by simp, .inr ⟨A2, o2, v2, hm2, by simp only; rw [e2]; exact hA⟩⟩
        · obtain ⟨i, rfl, hi, hor⟩ := e7 r w t1 hm
          refine ⟨i + 1, by omega, by simpa using hi, ?_⟩
          rcases hor with ⟨i', o', h1, h2, h3, h4, h5⟩ | ⟨A2, o2, v2, hm2, hA⟩
          · exact .inl ⟨i' + 1, o', by omega, by omega, by simpa using h3, h4, h5⟩
          · rcases hpend _ hm2 with hp | ⟨hw, hp⟩
            · exact .inr ⟨A2, o2, v2, hp, hA⟩
            · simp only [Prod.mk.injEq] at hp
              obtain ⟨rfl, rfl, rfl, rfl⟩ := hp
              exact .inl ⟨0, o2, by omega, rfl, rfl, hw, hA⟩
    have toldof : ∀ (m : EM AV) (x : AV × Told) (s1 : St), told m s = some (x, s1) → ∃ sx, m ⟨s.H, s.n, s.n, []⟩ = some (x.1, sx) ∧ x.2 = (s.n, (sx.log, sx.n)) ∧ s1 = ⟨sx.H, sx.n, s.wm, keepLt s.wm sx.log s.log⟩ := by
      intro m x s1 hm
      unfold told at hm
      split at hm
      · simp at hm
      · rename_i v sx hsx
        simp only [Option.some.injEq, Prod.mk.injEq] at hm
        obtain ⟨rfl, rfl⟩ := hm
        exact ⟨sx, hsx, rfl, rfl⟩
    rcases hw : aWanted ops A o with _ | _ | _ <;> rw [hw] at h <;> dsimp only at h
    · exact (fail_spec h).elim
    rotate_left
    · obtain ⟨x, s1, h1, h2⟩ := bind_spec h
      obtain ⟨v, t⟩ := x
      obtain ⟨sx, hsx, ht, hs1⟩ := toldof _ _ _ h1
      simp only at hsx ht
      rw [put_eq] at h2
      change (match putOf A o.dst v with | some A' => _ | none => _ : EM _) s1 = _ at h2
      rcases hA1 : putOf A o.dst v with _ | A1 <;> rw [hA1] at h2 <;> dsimp only at h2
      · exact (fail_spec h2).elim
      · obtain ⟨od, s3, hod, h2⟩ := bind_spec h2
        obtain ⟨y, s2, h3, h4⟩ := bind_spec h2
        obtain ⟨A2, ts1, ods1⟩ := y
        obtain ⟨e, rfl⟩ := pure_spec h4
        simp only [Prod.mk.injEq] at e
        obtain ⟨rfl, rfl, rfl⟩ := e
        obtain ⟨q1, q2, q3, q4⟩ := rechecksAt_spec hod
        obtain ⟨tail, k1, k2, k3, _⟩ := uni_oper hc _ _ _ hsx (Nat.le_refl _)
        refine finish v true t A1 s3 ts1 od ods1 _ ⟨hw, by rw [ht], by rw [ht, q2, hs1], fun _ => ⟨sx.log, ?_, by rw [ht]⟩, fun h => by simp at h, hA1⟩ rfl rfl ?_ ?_ h3
        · rw [hsx, q1, q2, hs1]
          simp only at k2
          cases sx
          simp only at k2
          subst k2
          rfl
        · intro r w t1 hm
          obtain ⟨e, A2, o2, v2, hm2, hA⟩ := q4 r w t1 hm
          exact ⟨e, A2, o2, v2, hm2, hA.congr q1 q2⟩
        · intro p hp
          rcases List.mem_cons.1 hp with hp | hp
          · exact .inr ⟨rfl, hp⟩
          · exact .inl hp
    · obtain ⟨x, s1, h1, h2⟩ := bind_spec h
      obtain ⟨v, t⟩ := x
      obtain ⟨sx, hsx, ht, hs1⟩ := toldof _ _ _ h1
      simp only at hsx ht
      obtain ⟨rfl, rfl⟩ := pure_spec hsx
      rw [put_eq] at h2
      change (match putOf A o.dst undefAV with | some A' => _ | none => _ : EM _) s1 = _ at h2
      rcases hA1 : putOf A o.dst undefAV with _ | A1 <;> rw [hA1] at h2 <;> dsimp only at h2
      · exact (fail_spec h2).elim
      · obtain ⟨y, s2, h3, h4⟩ := bind_spec h2
        obtain ⟨A2, ts1, ods1⟩ := y
        obtain ⟨e, rfl⟩ := pure_spec h4
        simp only [Prod.mk.injEq] at e
        obtain ⟨rfl, rfl, rfl⟩ := e
        exact finish undefAV false t A1 s1 ts1 [] ods pend ⟨hw, by rw [ht], by rw [ht, hs1], fun h => by simp at h, fun _ => ⟨rfl, by rw [ht], by rw [hs1], by rw [hs1]⟩, hA1⟩ rfl rfl (fun _ _ _ h => by simp at h) (fun p hp => .inl hp) h3

/-- What one operation turns in memory, and what it leaves. -/
structure Turn (s s' : St) (t : Told) : Prop where
  mono : s.n ≤ s'.n
  keep : ∀ l, (l, true) ∉ t.2.1 → ¬ (s.n ≤ l ∧ l < s'.n) → s'.H.get l = s.H.get l
  small : ∀ l b, (l, b) ∈ t.2.1 → l < s.n

theorem Rec.turn (hc : ∀ f args, Uni (call f args)) {ops : Array Oper} {o : Oper} {A A' : AAct} {s s' : St} {v : AV} {wt : Bool} {t : Told} (h : Rec P G en hook call ops o A A' s s' v wt t) (hd : Dom s) :
    Turn s s' t ∧ Dom s' := by
  cases wt with
  | false =>
    obtain ⟨-, h2, h3, h4⟩ := h.no rfl
    exact ⟨⟨by omega, fun l _ _ => by rw [h3], fun l b hb => by rw [h2] at hb; simp at hb⟩, fun l o ho => by rw [h3] at ho; have := hd l o ho; omega⟩
  | true =>
    obtain ⟨lg, h1, h2⟩ := h.yes rfl
    obtain ⟨tail, k1, k2, k3, k4, k5, k6, _⟩ := uni_oper hc _ _ _ h1 (Nat.le_refl _)
    simp only [List.append_nil] at k1
    simp only at k3 k4 k5 k6
    subst k1
    have dom' : Dom s' := by
      intro l x hx
      cases hh : s.H.get l with
      | none => exact (k5 l x hh hx).2
      | some y => have := hd l y hh; omega
    refine ⟨⟨k3, fun l hl hn => ?_, fun l b hb => k6 l b (by rw [h2] at hb; exact hb)⟩, dom'⟩
    by_cases hlt : l < s.n
    · exact k4 l hlt (by rw [h2] at hl; exact hl)
    · have hge : s'.n ≤ l := by omega
      cases hh : s.H.get l with
      | some y => have := hd l y hh; omega
      | none =>
        cases hh' : s'.H.get l with
        | none => rfl
        | some y => have := dom' l y hh'; omega

/- memory and slots as some of the operations leave them -/
section mixed
variable (SS : Nat → St) (VS : Nat → AV) (T : Nat → List (Nat × Bool)) (dst : Nat → Option Nat) (A0 : AAct) (S : Nat → Bool)

def Touch (i l : Nat) : Prop := (l, true) ∈ T i ∨ ((SS i).n ≤ l ∧ l < (SS (i + 1)).n)
open Classical in
noncomputable def mixH : Nat → Hp
  | 0, l => (SS 0).H.get l
  | k + 1, l => if S k = true ∧ Touch SS T k l then (SS (k + 1)).H.get l else mixH k l
noncomputable def mixA : Nat → Nat → AV
  | 0, t => A0.get t
  | k + 1, t => if S k = true ∧ dst k = some t then VS k else mixA k t
end mixed

/-- A restricted map. -/
noncomputable def cut (H : Tr AObj) : List (Nat × Bool) → Tr AObj
  | [] => .leaf
  | (l, _) :: r => match H.get l with
    | some o => (cut H r).set l o
    | none => cut H r
theorem cut_get {o : AObj} (H : Tr AObj) : ∀ (xs : List (Nat × Bool)) (l : Nat), (cut H xs).get l = some o → H.get l = some o ∧ ∃ b, (l, b) ∈ xs := by
  intro xs
  induction xs with
  | nil => intro l h; simp [cut, Tr.get_leaf] at h
  | cons x r ih =>
    obtain ⟨k, c⟩ := x
    intro l h
    unfold cut at h
    split at h
    · rename_i o' ho'
      rw [Tr.get_set] at h
      split at h
      · rename_i e
        subst e
        simp only [Option.some.injEq] at h
        subst h
        exact ⟨ho', c, by simp⟩
      · obtain ⟨h1, b, hb⟩ := ih l h
        exact ⟨h1, b, by simp [hb]⟩
    · obtain ⟨h1, b, hb⟩ := ih l h
      exact ⟨h1, b, by simp [hb]⟩
theorem cut_in (H : Tr AObj) : ∀ (xs : List (Nat × Bool)) (l : Nat) (b : Bool), (l, b) ∈ xs → (cut H xs).get l = H.get l := by
  intro xs
  induction xs with
  | nil => intro l b h; simp at h
  | cons x r ih =>
    obtain ⟨k, c⟩ := x
    intro l b h
    unfold cut
    by_cases e : l = k
    · subst e
      split
      · rename_i o' ho'; rw [Tr.get_set, if_pos rfl, ho']
      · rename_i hn
        cases hh : (cut H r).get l with
        | none => rw [hn]
        | some o => have := (cut_get H r l hh).1; rw [hn] at this; simp at this
    · have hr : (l, b) ∈ r := by
        rcases List.mem_cons.1 h with h | h
        · simp only [Prod.mk.injEq] at h; exact absurd h.1 e
        · exact h
      split
      · rw [Tr.get_set, if_neg e]; exact ih l b hr
      · exact ih l b hr
end
end Go.Ab
