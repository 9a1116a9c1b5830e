/-
  A REGION WHOSE ORDER IS DRAWN, third part: whatever the order, the same.
-/
import Derived.Test.YtldjfokgfapkiaaGreatDoorAbRegion2
namespace Go.Ab

section
variable {P : Program} {B : Nat} {ρ : Nat → Int} {en : Env} {G : Nat} {hook : Hook} {call : FuncId → List AV → EM AV}

/-- The trace, and what is known of it. -/
structure Run (P : Program) (G : Nat) (en : Env) (hook : Hook) (call : FuncId → List AV → EM AV) (ops : Array Oper) (AS : Nat → AAct) (SS : Nat → St) (VS : Nat → AV) (WS : Nat → Bool) (ts : List Told) : Prop where
  rcd : ∀ i o, ops[i]? = some o → ∃ t, ts[i]? = some t ∧ Rec P G en hook call ops o (AS i) (AS (i + 1)) (SS i) (SS (i + 1)) (VS i) (WS i) t
  turn : ∀ i o t, ops[i]? = some o → ts[i]? = some t → Turn (SS i) (SS (i + 1)) t
  dom : ∀ i, i ≤ ops.size → Dom (SS i)
  mono : ∀ i j, i ≤ j → j ≤ ops.size → (SS i).n ≤ (SS j).n
  N : ∀ i, i ≤ ops.size → (AS i).N = (AS 0).N

theorem run_of (hc : ∀ f args, Uni (call f args)) {ops : Array Oper} {AS : Nat → AAct} {SS : Nat → St} {VS : Nat → AV} {WS : Nat → Bool} {ts : List Told}
    (h : ∀ i o, ops.toList[i]? = some o → ∃ t, ts[i]? = some t ∧ Rec P G en hook call ops o (AS i) (AS (i + 1)) (SS i) (SS (i + 1)) (VS i) (WS i) t) (hd : Dom (SS 0)) :
    Run P G en hook call ops AS SS VS WS ts := by
  have h' : ∀ i o, ops[i]? = some o → ∃ t, ts[i]? = some t ∧ Rec P G en hook call ops o (AS i) (AS (i + 1)) (SS i) (SS (i + 1)) (VS i) (WS i) t := fun i o ho => h i o (by simpa using ho)
  have dom : ∀ i, i ≤ ops.size → Dom (SS i) := by
    intro i
    induction i with
    | zero => intro _; exact hd
    | succ i ih =>
      intro hi
      have hlt : i < ops.size := by omega
      obtain ⟨t, ht, hr⟩ := h' i ops[i] (Array.getElem?_eq_getElem hlt)
      exact (hr.turn hc (ih (by omega))).2
  have turn : ∀ i o t, ops[i]? = some o → ts[i]? = some t → Turn (SS i) (SS (i + 1)) t := by
    intro i o t ho ht
    obtain ⟨t', ht', hr⟩ := h' i o ho
    rw [ht] at ht'
    simp only [Option.some.injEq] at ht'
    subst ht'
    have hlt : i < ops.size := by
      rcases Nat.lt_or_ge i ops.size with h | h
      · exact h
      · simp [Array.getElem?_eq_none h] at ho
    exact (hr.turn hc (dom i (by omega))).1
  refine ⟨h', turn, dom, fun i j hij hj => ?_, fun i => ?_⟩
  · induction j with
    | zero => have : i = 0 := by omega
              subst this; exact Nat.le_refl _
    | succ j ih =>
      by_cases e : i = j + 1
      · subst e; exact Nat.le_refl _
      · have hlt : j < ops.size := by omega
        obtain ⟨t, ht, hr⟩ := h' j ops[j] (Array.getElem?_eq_getElem hlt)
        exact Nat.le_trans (ih (by omega) (by omega)) (turn j _ t (Array.getElem?_eq_getElem hlt) ht).mono
  · induction i with
    | zero => intro _; rfl
    | succ i ih =>
      intro hi
      have hlt : i < ops.size := by omega
      obtain ⟨t, ht, hr⟩ := h' i ops[i] (Array.getElem?_eq_getElem hlt)
      have hp := hr.put
      unfold putOf at hp
      rw [← ih (by omega)]
      split at hp
      · simp only [Option.some.injEq] at hp; rw [hp]
      · split at hp
        · simp only [Option.some.injEq] at hp; rw [← hp]
        · simp at hp

/-- The log of an operation. -/
def logOf (ts : List Told) (i : Nat) : List (Nat × Bool) := ((ts[i]?).map (·.2.1)).getD []
def dstOf (ops : Array Oper) (i : Nat) : Option Nat := (ops[i]?).bind (·.dst)

/-- Two operations of which either may be first. -/
structure Apart (ops : Array Oper) (SS : Nat → St) (ts : List Told) (oj : Oper) (i j : Nat) : Prop where
  wr1 : ∀ l, (l, true) ∈ logOf ts i → ∀ b, (l, b) ∉ logOf ts j
  made1 : ∀ l b, (l, b) ∈ logOf ts j → ¬ ((SS i).n ≤ l ∧ l < (SS (i + 1)).n)
  made2 : ∀ l b, (l, b) ∈ logOf ts i → ¬ ((SS j).n ≤ l ∧ l < (SS (j + 1)).n)
  slots : ∀ d, dstOf ops i = some d → d ∉ oj.looksAt ops
  dsts : ∀ d, dstOf ops j = some d → dstOf ops i ≠ some d

theorem apart_of {ops : Array Oper} {AS : Nat → AAct} {SS : Nat → St} {VS : Nat → AV} {WS : Nat → Bool} {ts : List Told} (hr : Run P G en hook call ops AS SS VS WS ts)
    {ods : List Odd} (hfree : freeAll ods 0 ts (Region.before ops).toList = true) (hods : ∀ r k t, (r, (k, t)) ∈ ods → OddFine ts r k t) (hap : apartAll ops 0 ops.toList (Region.before ops).toList = true) {S : Nat → Bool} (hb : Back ops) (hS : Closed ops S)
    {j : Nat} {oj : Oper} (hj : ops[j]? = some oj) (hSj : S j = false) (hready : ∀ e ∈ oj.after, Region.binds .any e = true → S e.on = true) {i : Nat} {oi : Oper} (hi : ops[i]? = some oi)
    (h : (i < j ∧ S i = false) ∨ (j < i ∧ S i = true)) (hnot : j < i → ∀ t, (j, (i, t)) ∉ ods) : Apart ops SS ts oj i j := by
  obtain ⟨ti, hti, ri⟩ := hr.rcd i oi hi
  obtain ⟨tj, htj, rj⟩ := hr.rcd j oj hj
  have li : logOf ts i = ti.2.1 := by simp [logOf, hti]
  have lj : logOf ts j = tj.2.1 := by simp [logOf, htj]
  have di : dstOf ops i = oi.dst := by simp [dstOf, hi]
  have dj : dstOf ops j = oj.dst := by simp [dstOf, hj]
  have hilt : i < ops.size := (Array.getElem?_eq_some_iff.1 hi).1
  have hjlt : j < ops.size := (Array.getElem?_eq_some_iff.1 hj).1
  have si := (hr.turn i oi ti hi hti).small
  have sj := (hr.turn j oj tj hj htj).small
  rcases h with ⟨hlt, hSi⟩ | ⟨hlt, hSi⟩
  · have nb : ¬ ((Region.before ops).toList.getD j 0).testBit i = true := by
      intro hbit
      have := ahead_done hb hS j oj hj hready i hbit
      rw [hSi] at this; simp at this
    have p := (apartAll_spec hap i j oi oj hlt (by simpa using hi) (by simpa using hj)).resolve_left (by simpa using nb)
    obtain ⟨p1, p2, p3⟩ := Oper.apart_spec p
    rcases (freeAll_spec hfree i j ti tj hlt hti htj).resolve_left (by simpa using nb) with f | ⟨t, hodd⟩
    rotate_left
    · simp only [Nat.zero_add] at hodd
      obtain ⟨x, hx, x1, x2, x3⟩ := (hods _ _ _ hodd).is
      rw [hti] at hx
      simp only [Option.some.injEq] at hx
      subst hx
      refine ⟨?_, ?_, ?_, ?_, ?_⟩
      · rw [li]; intro l hl; exact absurd hl (x1 l)
      · intro l b _ hc; rw [ri.start, ri.stop] at x2; omega
      · rw [li]; intro l b hlb hc; have := si l b hlb; have := hr.mono i j (by omega) (by omega); omega
      · rw [di]; exact p1
      · rw [di, dj]; intro d hd hd'; exact p2 d hd' hd
    obtain ⟨f1, f2⟩ := free2_spec f
    refine ⟨?_, ?_, ?_, ?_, ?_⟩
    · rw [li, lj]; intro l hl b hb; have := (f1 l true b hl hb).1; simp at this
    · rw [lj]; intro l b hlb; have := f2 l b hlb; rw [ri.start, ri.stop] at this; exact this
    · rw [li]; intro l b hlb hc; have := si l b hlb; have := hr.mono i j (by omega) (by omega); omega
    · rw [di]; exact p1
    · rw [di, dj]; intro d hd hd'; exact p2 d hd' hd
  · have nb : ¬ ((Region.before ops).toList.getD i 0).testBit j = true := by
      intro hbit
      have := ahead_done hb hS i oi hi (hS i oi hi hSi) j hbit
      rw [hSj] at this; simp at this
    have f : free2 tj ti = true := by
      rcases (freeAll_spec hfree j i tj ti hlt htj hti).resolve_left (by simpa using nb) with f | ⟨t, hodd⟩
      · exact f
      · simp only [Nat.zero_add] at hodd
        exact absurd hodd (hnot hlt t)
    have p := (apartAll_spec hap j i oj oi hlt (by simpa using hj) (by simpa using hi)).resolve_left (by simpa using nb)
    obtain ⟨f1, f2⟩ := free2_spec f
    obtain ⟨p1, p2, p3⟩ := Oper.apart_spec p
    refine ⟨?_, ?_, ?_, ?_, ?_⟩
    · rw [li, lj]; intro l hl b hb; have := (f1 l b true hb hl).2; simp at this
    · rw [lj]; intro l b hlb hc; have := sj l b hlb; have := hr.mono j i (by omega) (by omega); omega
    · rw [li]; intro l b hlb; have := f2 l b hlb; rw [rj.start, rj.stop] at this; exact this
    · rw [di]; exact p3
    · rw [di, dj]; intro d hd; exact p2 d hd

/-- The slots of two operations of which either may be first. -/
theorem slots_of {ops : Array Oper} (hap : apartAll ops 0 ops.toList (Region.before ops).toList = true) {S : Nat → Bool} (hb : Back ops) (hS : Closed ops S)
    {j : Nat} {oj : Oper} (hj : ops[j]? = some oj) (hSj : S j = false) (hready : ∀ e ∈ oj.after, Region.binds .any e = true → S e.on = true) {i : Nat} {oi : Oper} (hi : ops[i]? = some oi)
    (h : (i < j ∧ S i = false) ∨ (j < i ∧ S i = true)) : (∀ d, dstOf ops i = some d → d ∉ oj.looksAt ops) ∧ ∀ d, dstOf ops j = some d → dstOf ops i ≠ some d := by
  have di : dstOf ops i = oi.dst := by simp [dstOf, hi]
  have dj : dstOf ops j = oj.dst := by simp [dstOf, hj]
  rcases h with ⟨hlt, hSi⟩ | ⟨hlt, hSi⟩
  · have nb : ¬ ((Region.before ops).toList.getD j 0).testBit i = true := by
      intro hbit
      have := ahead_done hb hS j oj hj hready i hbit
      rw [hSi] at this; simp at this
    have p := (apartAll_spec hap i j oi oj hlt (by simpa using hi) (by simpa using hj)).resolve_left (by simpa using nb)
    obtain ⟨p1, p2, p3⟩ := Oper.apart_spec p
    exact ⟨by rw [di]; exact p1, by rw [di, dj]; intro d hd hd'; exact p2 d hd' hd⟩
  · have nb : ¬ ((Region.before ops).toList.getD i 0).testBit j = true := by
      intro hbit
      have := ahead_done hb hS i oi hi (hS i oi hi hSi) j hbit
      rw [hSj] at this; simp at this
    have p := (apartAll_spec hap j i oj oi hlt (by simpa using hj) (by simpa using hi)).resolve_left (by simpa using nb)
    obtain ⟨p1, p2, p3⟩ := Oper.apart_spec p
    exact ⟨by rw [di]; exact p3, by rw [di, dj]; intro d hd; exact p2 d hd⟩

def upd (S : Nat → Bool) (j : Nat) : Nat → Bool := fun i => if i = j then true else S i

section mixes
variable {ops : Array Oper} {AS : Nat → AAct} {SS : Nat → St} {VS : Nat → AV} {WS : Nat → Bool} {ts : List Told}

theorem mixH_full (hr : Run P G en hook call ops AS SS VS WS ts) {S : Nat → Bool} (l : Nat) : ∀ k, k ≤ ops.size → (∀ i, i < k → S i = true) → mixH SS (logOf ts) S k l = (SS k).H.get l
  | 0, _, _ => rfl
  | k + 1, hk, hS => by
    have hlt : k < ops.size := by omega
    have ho := Array.getElem?_eq_getElem hlt
    obtain ⟨t, ht, rk⟩ := hr.rcd k _ ho
    have tk := hr.turn k _ t ho ht
    unfold mixH
    split
    · rfl
    · rename_i hn
      rw [mixH_full hr l k (by omega) fun i hi => hS i (by omega)]
      have hnt : ¬ Touch SS (logOf ts) k l := fun h => hn ⟨hS k (by omega), h⟩
      have lk : logOf ts k = t.2.1 := by simp [logOf, ht]
      exact (tk.keep l (fun h => hnt (.inl (by rw [lk]; exact h))) (fun h => hnt (.inr h))).symm

theorem mixA_full (hr : Run P G en hook call ops AS SS VS WS ts) {S : Nat → Bool} (t : Nat) : ∀ k, k ≤ ops.size → (∀ i, i < k → S i = true) → mixA VS (dstOf ops) (AS 0) S k t = (AS k).get t
  | 0, _, _ => rfl
  | k + 1, hk, hS => by
    have hlt : k < ops.size := by omega
    have ho := Array.getElem?_eq_getElem hlt
    obtain ⟨tt, ht, rk⟩ := hr.rcd k _ ho
    have hp := rk.put
    have dk : dstOf ops k = ops[k].dst := by simp [dstOf, ho]
    unfold mixA
    rw [hS k (by omega), dk]
    unfold putOf at hp
    cases hd : ops[k].dst with
    | none =>
      rw [hd] at hp
      simp only [Option.some.injEq] at hp
      rw [if_neg (by simp), mixA_full hr t k (by omega) fun i hi => hS i (by omega), hp]
    | some d =>
      rw [hd] at hp
      dsimp only at hp
      split at hp
      · simp only [Option.some.injEq] at hp
        rw [← hp, get_set_tm]
        by_cases e : t = d
        · rw [if_pos ⟨rfl, by rw [e]⟩, if_pos e]
        · rw [if_neg (by rintro ⟨-, h⟩; simp only [Option.some.injEq] at h; exact e h.symm), if_neg e, mixA_full hr t k (by omega) fun i hi => hS i (by omega)]
      · simp at hp

theorem mixH_below (hr : Run P G en hook call ops AS SS VS WS ts) {j : Nat} (l : Nat) (hj : j ≤ ops.size) : ∀ k, j ≤ k → k ≤ ops.size → mixH SS (logOf ts) (fun i => decide (i < j)) k l = (SS j).H.get l := by
  intro k hjk hk
  induction k with
  | zero =>
    have : j = 0 := by omega
    subst this; rfl
  | succ k ih =>
    by_cases e : j = k + 1
    · subst e; exact mixH_full hr l (k + 1) hk fun i hi => by simpa using hi
    · unfold mixH
      rw [if_neg (by rintro ⟨h, -⟩; simp at h; omega)]
      exact ih (by omega) (by omega)
theorem mixA_below (hr : Run P G en hook call ops AS SS VS WS ts) {j : Nat} (t : Nat) (hj : j ≤ ops.size) : ∀ k, j ≤ k → k ≤ ops.size → mixA VS (dstOf ops) (AS 0) (fun i => decide (i < j)) k t = (AS j).get t := by
  intro k hjk hk
  induction k with
  | zero =>
    have : j = 0 := by omega
    subst this; rfl
  | succ k ih =>
    by_cases e : j = k + 1
    · subst e; exact mixA_full hr t (k + 1) hk fun i hi => by simpa using hi
    · unfold mixA
      rw [if_neg (by rintro ⟨h, -⟩; simp at h; omega)]
      exact ih (by omega) (by omega)

/-- What an operation looks at is as it is in the order of the text. -/
theorem looked (hr : Run P G en hook call ops AS SS VS WS ts) {S : Nat → Bool} {j : Nat} {oj : Oper} (hj : ops[j]? = some oj) (hSj : S j = false)
    (hap : ∀ i, i < ops.size → ((i < j ∧ S i = false) ∨ (j < i ∧ S i = true)) → Apart ops SS ts oj i j) {l : Nat} {b : Bool} (hl : (l, b) ∈ logOf ts j) :
    mixH SS (logOf ts) S ops.size l = (SS j).H.get l := by
  have hjlt : j < ops.size := (Array.getElem?_eq_some_iff.1 hj).1
  rw [← mixH_below hr l (Nat.le_of_lt hjlt) ops.size (Nat.le_of_lt hjlt) (Nat.le_refl _)]
  have key : ∀ k, k ≤ ops.size → mixH SS (logOf ts) S k l = mixH SS (logOf ts) (fun i => decide (i < j)) k l := by
    intro k hk
    induction k with
    | zero => rfl
    | succ k ih =>
      have nt : ((k < j ∧ S k = false) ∨ (j < k ∧ S k = true)) → ¬ Touch SS (logOf ts) k l := by
        intro h ht
        have ap := hap k (by omega) h
        rcases ht with ht | ht
        · exact ap.wr1 l ht b hl
        · exact ap.made1 l b hl ht
      unfold mixH
      rw [ih (by omega)]
      by_cases hd : S k = decide (k < j)
      · rw [hd]
      · have hcase : (k < j ∧ S k = false) ∨ (j < k ∧ S k = true) := by
          by_cases hkj : k < j
          · left; refine ⟨hkj, ?_⟩; cases h : S k
            · rfl
            · rw [h] at hd; simp [hkj] at hd
          · right
            cases h : S k
            · rw [h] at hd; simp [hkj] at hd
            · refine ⟨?_, rfl⟩
              rcases Nat.lt_trichotomy k j with h1 | h1 | h1
              · omega
              · subst h1; rw [hSj] at h; simp at h
              · exact h1
        have := nt hcase
        rw [if_neg (fun h => this h.2), if_neg (fun h => this h.2)]
  exact key ops.size (Nat.le_refl _)
/-- What a reader looks at that was overtaken by a writer. -/
theorem looked_alt (hr : Run P G en hook call ops AS SS VS WS ts) {S : Nat → Bool} {r w : Nat} {or : Oper} (hSr : S r = false) (hSw : S w = true) (hlt : r < w) (hw : w < ops.size) {l : Nat} {b : Bool} (hl : (l, b) ∈ logOf ts r)
    (hap : ∀ i, i < ops.size → i ≠ w → ((i < r ∧ S i = false) ∨ (r < i ∧ S i = true)) → Apart ops SS ts or i r) (hbt : ∀ k, r ≤ k → k < w → ¬ Touch SS (logOf ts) k l) :
    mixH SS (logOf ts) S ops.size l = (SS (w + 1)).H.get l := by
  have keep : ∀ k, k < ops.size → ¬ Touch SS (logOf ts) k l → (SS (k + 1)).H.get l = (SS k).H.get l := by
    intro k hk hn
    have ho := Array.getElem?_eq_getElem hk
    obtain ⟨t, ht, rk⟩ := hr.rcd k _ ho
    have tk := hr.turn k _ t ho ht
    have lk : logOf ts k = t.2.1 := by simp [logOf, ht]
    exact tk.keep l (fun h => hn (.inl (by rw [lk]; exact h))) (fun h => hn (.inr h))
  have keyA : ∀ k, k ≤ ops.size → mixH SS (logOf ts) S k l = mixH SS (logOf ts) (fun i => decide (i < r) || decide (i = w)) k l := by
    intro k hk
    induction k with
    | zero => rfl
    | succ k ih =>
      unfold mixH
      rw [ih (by omega)]
      by_cases hd : S k = (decide (k < r) || decide (k = w))
      · rw [hd]
      · have hne : k ≠ w := by rintro rfl; exact hd (by simp [hSw])
        have hne2 : k ≠ r := by rintro rfl; exact hd (by simp [hSr, hne])
        have hcase : (k < r ∧ S k = false) ∨ (r < k ∧ S k = true) := by
          by_cases hkr : k < r
          · left; refine ⟨hkr, ?_⟩; cases h : S k
            · rfl
            · rw [h] at hd; simp [hkr] at hd
          · right
            cases h : S k
            · rw [h] at hd; simp [hkr, hne] at hd
            · exact ⟨by omega, rfl⟩
        have ap := hap k (by omega) hne hcase
        have : ¬ Touch SS (logOf ts) k l := by
          rintro (ht | ht)
          · exact ap.wr1 l ht b hl
          · exact ap.made1 l b hl ht
        rw [if_neg (fun h => this h.2), if_neg (fun h => this h.2)]
  rw [keyA ops.size (Nat.le_refl _)]
  have below : ∀ k, r ≤ k → k ≤ w → mixH SS (logOf ts) (fun i => decide (i < r) || decide (i = w)) k l = (SS k).H.get l := by
    intro k h1 h2
    induction k with
    | zero => rfl
    | succ k ih =>
      by_cases e : k + 1 = r
      · exact mixH_full hr l (k + 1) (by omega) fun i hi => by have : i < r := by omega
                                                               simp [this]
      · have hn := hbt k (by omega) (by omega)
        unfold mixH
        rw [if_neg (fun h => hn h.2), ih (by omega) (by omega), keep k (by omega) hn]
  have atw : mixH SS (logOf ts) (fun i => decide (i < r) || decide (i = w)) (w + 1) l = (SS (w + 1)).H.get l := by
    unfold mixH
    by_cases ht : Touch SS (logOf ts) w l
    · rw [if_pos ⟨by simp, ht⟩]
    · rw [if_neg (fun h => ht h.2), below w (by omega) (Nat.le_refl _), keep w hw ht]
  have above : ∀ k, w + 1 ≤ k → k ≤ ops.size → mixH SS (logOf ts) (fun i => decide (i < r) || decide (i = w)) k l = (SS (w + 1)).H.get l := by
    intro k h1 h2
    induction k with
    | zero => omega
    | succ k ih =>
      by_cases e : k = w
      · rw [e]; exact atw
      · unfold mixH
        have : (decide (k < r) || decide (k = w)) = false := by simp; omega
        rw [if_neg (by rw [this]; simp), ih (by omega) (by omega)]
  exact above ops.size (by omega) (Nat.le_refl _)
theorem looked_slot (hr : Run P G en hook call ops AS SS VS WS ts) {S : Nat → Bool} {j : Nat} {oj : Oper} (hj : ops[j]? = some oj) (hSj : S j = false)
    (hap : ∀ i, i < ops.size → ((i < j ∧ S i = false) ∨ (j < i ∧ S i = true)) → ∀ d, dstOf ops i = some d → d ∉ oj.looksAt ops) {t : Nat} (ht : t ∈ oj.looksAt ops) :
    mixA VS (dstOf ops) (AS 0) S ops.size t = (AS j).get t := by
  have hjlt : j < ops.size := (Array.getElem?_eq_some_iff.1 hj).1
  rw [← mixA_below hr t (Nat.le_of_lt hjlt) ops.size (Nat.le_of_lt hjlt) (Nat.le_refl _)]
  have key : ∀ k, k ≤ ops.size → mixA VS (dstOf ops) (AS 0) S k t = mixA VS (dstOf ops) (AS 0) (fun i => decide (i < j)) k t := by
    intro k hk
    induction k with
    | zero => rfl
    | succ k ih =>
      unfold mixA
      rw [ih (by omega)]
      by_cases hd : S k = decide (k < j)
      · rw [hd]
      · have hcase : (k < j ∧ S k = false) ∨ (j < k ∧ S k = true) := by
          by_cases hkj : k < j
          · left; refine ⟨hkj, ?_⟩; cases h : S k
            · rfl
            · rw [h] at hd; simp [hkj] at hd
          · right
            cases h : S k
            · rw [h] at hd; simp [hkj] at hd
            · refine ⟨?_, rfl⟩
              rcases Nat.lt_trichotomy k j with h1 | h1 | h1
              · omega
              · subst h1; rw [hSj] at h; simp at h
              · exact h1
        have hne : dstOf ops k ≠ some t := fun h => hap k (by omega) hcase t h ht
        rw [if_neg (fun h => hne h.2), if_neg (fun h => hne h.2)]
  exact key ops.size (Nat.le_refl _)

/-- Memory with one more operation done. -/
theorem mixH_upd_touch (hr : Run P G en hook call ops AS SS VS WS ts) {S : Nat → Bool} {j : Nat} {oj : Oper} (hj : ops[j]? = some oj)
    (hap : ∀ i, i < ops.size → ((i < j ∧ S i = false) ∨ (j < i ∧ S i = true)) → Apart ops SS ts oj i j) {l : Nat} (hl : Touch SS (logOf ts) j l) :
    mixH SS (logOf ts) (upd S j) ops.size l = (SS (j + 1)).H.get l := by
  have hjlt : j < ops.size := (Array.getElem?_eq_some_iff.1 hj).1
  have key : ∀ k, j < k → k ≤ ops.size → mixH SS (logOf ts) (upd S j) k l = (SS (j + 1)).H.get l := by
    intro k hjk hk
    induction k with
    | zero => omega
    | succ k ih =>
      unfold mixH
      by_cases e : k = j
      · subst e; rw [if_pos ⟨by simp [upd], hl⟩]
      · rw [if_neg, ih (by omega) (by omega)]
        rintro ⟨hS, ht⟩
        have hS : S k = true := by simpa [upd, e] using hS
        have ap := hap k (by omega) (.inr ⟨by omega, hS⟩)
        rcases ht with ht | ht <;> rcases hl with hl | hl
        · exact ap.wr1 l ht true hl
        · exact ap.made2 l true ht hl
        · exact ap.made1 l true hl ht
        · have := hr.mono (j + 1) k (by omega) (by omega); omega
  exact key ops.size hjlt (Nat.le_refl _)
theorem mixH_upd_not {S : Nat → Bool} {j l : Nat} (hl : ¬ Touch SS (logOf ts) j l) : mixH SS (logOf ts) (upd S j) ops.size l = mixH SS (logOf ts) S ops.size l := by
  have key : ∀ k, mixH SS (logOf ts) (upd S j) k l = mixH SS (logOf ts) S k l := by
    intro k
    induction k with
    | zero => rfl
    | succ k ih =>
      unfold mixH
      rw [ih]
      by_cases e : k = j
      · subst e; rw [if_neg (fun h => hl h.2), if_neg (fun h => hl h.2)]
      · have hu : upd S j k = S k := by simp [upd, e]
        rw [hu]
  exact key _
theorem mixA_upd {S : Nat → Bool} {j : Nat} {oj : Oper} (hj : ops[j]? = some oj)
    (hap : ∀ i, i < ops.size → j < i → S i = true → ∀ d, dstOf ops j = some d → dstOf ops i ≠ some d) (t : Nat) :
    mixA VS (dstOf ops) (AS 0) (upd S j) ops.size t = if oj.dst = some t then VS j else mixA VS (dstOf ops) (AS 0) S ops.size t := by
  have hjlt : j < ops.size := (Array.getElem?_eq_some_iff.1 hj).1
  have dj : dstOf ops j = oj.dst := by simp [dstOf, hj]
  by_cases hd : oj.dst = some t
  · rw [if_pos hd]
    have key : ∀ k, j < k → k ≤ ops.size → mixA VS (dstOf ops) (AS 0) (upd S j) k t = VS j := by
      intro k hjk hk
      induction k with
      | zero => omega
      | succ k ih =>
        unfold mixA
        by_cases e : k = j
        · subst e; rw [if_pos ⟨by simp [upd], by rw [dj, hd]⟩]
        · rw [if_neg, ih (by omega) (by omega)]
          rintro ⟨hS, ht⟩
          have hS : S k = true := by simpa [upd, e] using hS
          exact hap k (by omega) (by omega) hS t (by rw [dj, hd]) ht
    exact key ops.size hjlt (Nat.le_refl _)
  · rw [if_neg hd]
    have key : ∀ k, mixA VS (dstOf ops) (AS 0) (upd S j) k t = mixA VS (dstOf ops) (AS 0) S k t := by
      intro k
      induction k with
      | zero => rfl
      | succ k ih =>
        unfold mixA
        rw [ih]
        by_cases e : k = j
        · subst e; rw [dj, if_neg (fun h => hd h.2), if_neg (fun h => hd h.2)]
        · have hu : upd S j k = S k := by simp [upd, e]
          rw [hu]
    exact key _
end mixes
end
end Go.Ab
