/-
  REGIONS, CODE, FUNCTIONS: what the reckoning gives is what a run of the model comes to.
-/
import Derived.Test.YtldjfokgfapkiaaGreatDoorAbRegion4
namespace Go.Ab

section
variable {P : Program} {B : Nat} {ρ : Nat → Int} {en : Env} {G : Nat} {hook : Hook} {call : FuncId → List AV → EM AV}

def left (S : Nat → Bool) : Nat → Nat
  | 0 => 0
  | k + 1 => left S k + if S k = true then 0 else 1
theorem left_upd {S : Nat → Bool} {j : Nat} (hj : S j = false) : ∀ k, left (upd S j) k + (if j < k then 1 else 0) = left S k
  | 0 => rfl
  | k + 1 => by
    have ih := left_upd hj k
    show left (upd S j) k + (if upd S j k = true then 0 else 1) + (if j < k + 1 then 1 else 0) = left S k + (if S k = true then 0 else 1)
    by_cases e : k = j
    · subst e
      have h1 : upd S k k = true := by simp [upd]
      simp only [Nat.lt_irrefl, if_false] at ih
      simp only [h1, hj, if_true, Nat.lt_succ_self, Bool.false_eq_true, if_false]
      omega
    · have h1 : upd S j k = S k := by simp [upd, e]
      rw [h1]
      by_cases h : j < k
      · simp only [h, if_true] at ih
        simp only [show j < k + 1 by omega, if_true]
        omega
      · simp only [h, if_false] at ih
        simp only [show ¬ j < k + 1 by omega, if_false]
        omega
theorem left_zero {S : Nat → Bool} : ∀ k, left S k = 0 → ∀ i, i < k → S i = true
  | 0, _, i, hi => by omega
  | k + 1, h, i, hi => by
    unfold left at h
    have h1 : left S k = 0 := by omega
    by_cases e : i = k
    · subst e; cases hs : S i
      · rw [hs] at h; simp at h
      · rfl
    · exact left_zero k h1 i (by omega)
theorem left_le {S : Nat → Bool} : ∀ k, left S k ≤ k
  | 0 => Nat.le_refl _
  | k + 1 => by
    have := left_le (S := S) k
    unfold left
    split <;> omega

theorem mixH_none {SS : Nat → St} {T : Nat → List (Nat × Bool)} {S : Nat → Bool} (hS : ∀ i, S i = false) (l : Nat) : ∀ k, mixH SS T S k l = (SS 0).H.get l
  | 0 => rfl
  | k + 1 => by unfold mixH; rw [hS k, if_neg (by simp), mixH_none hS l k]
theorem mixA_none {VS : Nat → AV} {d : Nat → Option Nat} {A0 : AAct} {S : Nat → Bool} (hS : ∀ i, S i = false) (t : Nat) : ∀ k, mixA VS d A0 S k t = A0.get t
  | 0 => rfl
  | k + 1 => by unfold mixA; rw [hS k, if_neg (by simp), mixA_none hS t k]

theorem looks_operand {ops : Array Oper} {o : Oper} {t : Nat} (h : Operand.tmp t ∈ o.op.operands) : t ∈ o.looksAt ops := by
  unfold Oper.looksAt
  apply List.mem_append.2
  left
  rw [List.mem_filterMap]
  exact ⟨.tmp t, by simpa using h, rfl⟩
theorem looks_guard {ops : Array Oper} {o : Oper} {j d : Nat} {want : Bool} (hg : o.guard = some (j, want)) (hd : (ops[j]?).bind (·.dst) = some d) : d ∈ o.looksAt ops := by
  unfold Oper.looksAt
  apply List.mem_append.2
  right
  rw [hg]
  simp [hd]

theorem any_ok (he : EnvOk ρ en) (hhook : HookOk P ρ hook) (hcall : CallOk P B ρ G call) (hc : ∀ f args, Uni (call f args)) {ops : Array Oper} {AS : Nat → AAct} {SS : Nat → St} {VS : Nat → AV} {WS : Nat → Bool}
    {ts : List Told} (hr : Run P G en hook call ops AS SS VS WS ts) {ods : List Odd} (hfree : freeAll ods 0 ts (Region.before ops).toList = true) (hods : oddsFine ts ods = true)
    (halt : ∀ r w t, (r, (w, t)) ∈ ods → w < ops.size ∧ ∃ o, ops[r]? = some o ∧ WS r = true ∧ Alt P G en hook call (AS r) o (VS r) (SS (w + 1)) t) (hap : apartAll ops 0 ops.toList (Region.before ops).toList = true) (hb : Back ops)
    {φ : PM} {w : World} (hG : GOk G φ) (hf : Fresh φ (SS 0).n (SS ops.size).n) {Q : Exit → Act → World → Prop}
    (hQ : ∀ φ' a' w', ARel ρ φ' (AS ops.size) a' → Post B ρ φ φ' (SS 0) (SS ops.size) w w' → Q .normal a' w') :
    ∀ (fuel : Nat) (listed : Array Bool) (φ1 : PM) (a1 : Act) (w1 : World), listed.size = ops.size → left (fun i => listed.getD i false) ops.size ≤ fuel → Closed ops (fun i => listed.getD i false) →
      Inv B ρ ops AS SS VS ts φ w (fun i => listed.getD i false) φ1 a1 w1 → wpAny P .any ops Q fuel listed a1 w1 := by
  have done : ∀ (listed : Array Bool) (φ1 : PM) (a1 : Act) (w1 : World), (∀ i, i < ops.size → listed.getD i false = true) → Inv B ρ ops AS SS VS ts φ w (fun i => listed.getD i false) φ1 a1 w1 → Q .normal a1 w1 := by
    intro listed φ1 a1 w1 hall hI
    have eH : mixH SS (logOf ts) (fun i => listed.getD i false) ops.size = (SS ops.size).H.get := funext fun l => mixH_full hr l _ (Nat.le_refl _) hall
    refine hQ φ1 a1 w1 ⟨hI.defers, by rw [hI.size, hr.N _ (Nat.le_refl _)], fun t => by rw [← mixA_full hr t _ (Nat.le_refl _) hall]; exact hI.vals t⟩ ⟨hI.le, fun l h1 h2 => ?_, hr.mono _ _ (Nat.zero_le _) (Nat.le_refl _), ?_, hI.fr, ?_, ?_⟩
    · obtain ⟨i, i1, i2, i3, i4⟩ := hI.new l h1 h2
      have := hr.mono 0 i (Nat.zero_le _) (by omega)
      have := hr.mono (i + 1) ops.size (by omega) (Nat.le_refl _)
      omega
    · have := hI.rel; rw [eH] at this; exact this
    · have := hI.own; rw [eH] at this; exact this
    · have := hI.has; rw [eH] at this; exact this
  have allOf : ∀ (listed : Array Bool), listed.size = ops.size → Region.ready .any ops listed = [] → ∀ i, i < ops.size → listed.getD i false = true := by
    intro listed hs hrd i
    induction i using Nat.strongRecOn with
    | _ i ih =>
      intro hi
      cases hli : listed.getD i false with
      | true => rfl
      | false =>
        have : i ∈ Region.ready .any ops listed := by
          refine mem_ready.2 ⟨?_, ops[i], Array.getElem?_eq_getElem hi, fun e hem hbd => ?_⟩
          · simp only [Array.getD, show i < listed.size by omega, dif_pos] at hli ⊢; exact hli
          · have hlt := hb i ops[i] (Array.getElem?_eq_getElem hi) e hem hbd
            exact ih e.on hlt (by omega)
        rw [hrd] at this
        simp at this
  intro fuel
  induction fuel with
  | zero =>
    intro listed φ1 a1 w1 hs hl hcl hI
    have hall := left_zero (S := fun i => listed.getD i false) ops.size (by omega)
    refine ⟨?_, done listed φ1 a1 w1 hall hI⟩
    cases hrd : Region.ready .any ops listed with
    | nil => rfl
    | cons i r =>
      have hi : i ∈ Region.ready .any ops listed := by rw [hrd]; simp
      obtain ⟨h1, o, h2, _⟩ := mem_ready.1 hi
      have hlt : i < ops.size := (Array.getElem?_eq_some_iff.1 h2).1
      have := hall i hlt
      simp only [Array.getD, show i < listed.size by omega, dif_pos] at this h1
      rw [this] at h1; simp at h1
  | succ fuel ih =>
    intro listed φ1 a1 w1 hs hl hcl hI
    refine ⟨fun hrd => done listed φ1 a1 w1 (allOf listed hs hrd) hI, fun j hjr => ?_⟩
    obtain ⟨h1, oj, hj, hready⟩ := mem_ready.1 hjr
    have hjlt : j < ops.size := (Array.getElem?_eq_some_iff.1 hj).1
    have hSj : listed.getD j false = false := by
      simp only [Array.getD, show j < listed.size by omega, dif_pos] at h1 ⊢; exact h1
    obtain ⟨hfine, huniq⟩ := oddsFine_spec hods
    have hsl : ∀ i, i < ops.size → ((i < j ∧ (fun i => listed.getD i false) i = false) ∨ (j < i ∧ (fun i => listed.getD i false) i = true)) → _ :=
      fun i hi h => slots_of hap hb hcl hj hSj hready (Array.getElem?_eq_getElem hi) h
    obtain ⟨t, ht, rj⟩ := hr.rcd j oj hj
    have htn := hr.turn j oj t hj ht
    have lj : logOf ts j = t.2.1 := by simp [logOf, ht]
    have hNj := hr.N j (by omega)
    have hdomj := hr.dom j (by omega)
    -- the next state of the list
    have hupd : (fun i => (listed.setIfInBounds j true).getD i false) = upd (fun i => listed.getD i false) j := by
      funext i
      simp only [upd, Array.getD_eq_getD_getElem?, Array.getElem?_setIfInBounds]
      by_cases e : i = j
      · subst e; rw [if_pos rfl, if_pos (by omega), if_pos rfl]; rfl
      · rw [if_neg (Ne.symm e), if_neg e]
    have hcl' : Closed ops (fun i => (listed.setIfInBounds j true).getD i false) := by
      rw [hupd]
      intro k o hk hSk e hem hbd
      by_cases ek : k = j
      · subst ek
        rw [hj] at hk
        simp only [Option.some.injEq] at hk
        subst hk
        have := hready e hem hbd
        simp only [upd]; split <;> first | rfl | exact this
      · have hSk : listed.getD k false = true := by simpa [upd, ek] using hSk
        have := hcl k o hk hSk e hem hbd
        simp only [upd]; split <;> first | rfl | exact this
    have hleft' : left (fun i => (listed.setIfInBounds j true).getD i false) ops.size ≤ fuel := by
      rw [hupd]
      have := left_upd (S := fun i => listed.getD i false) (j := j) hSj ops.size
      rw [if_pos hjlt] at this
      omega
    have hdst : ∀ d, oj.dst = some d → d < (AS 0).N := by
      intro d hd
      have hp := rj.put
      unfold putOf at hp
      rw [hd] at hp
      dsimp only at hp
      by_cases hlt : d < (AS j).N
      · rw [← hNj]; exact hlt
      · rw [if_neg hlt] at hp; simp at hp
    have slot : ∀ t', t' ∈ oj.looksAt ops → VRel ρ φ1 ((AS j).get t') (a1.tmps.getD t' undef) := fun t' ht' => by
      rw [← looked_slot hr hj hSj (fun i hi h => (hsl i hi h).1) ht']; exact hI.vals t'
    have hw := wanted_ok (ρ := ρ) (φ := φ1) (fun k want d hg hd => slot d (looks_guard hg hd)) (by rw [hI.size, hNj]) rj.want
    unfold wpOp
    rw [hj]
    dsimp only
    have hGφ := hG.mono hI.le
    by_cases hover : ∃ w t, j < w ∧ (fun i => listed.getD i false) w = true ∧ (j, (w, t)) ∈ ods
    · obtain ⟨k, tk, hjk, hSk, hmem⟩ := hover
      obtain ⟨hklt, o2, ho2, hwt, v', s', y1, y2, y3⟩ := halt j k tk hmem
      rw [hj] at ho2
      simp only [Option.some.injEq] at ho2
      subst ho2
      have hF := hfine j k tk hmem
      obtain ⟨x, hx, x1, x2, x3⟩ := hF.is
      rw [ht] at hx
      simp only [Option.some.injEq] at hx
      subst hx
      rw [hwt] at hw rj
      rw [hw, if_pos rfl]
      left
      obtain ⟨tail, k1, k2, k3, k4, k5, k6, k7⟩ := uni_oper hc _ _ _ y1 (Nat.le_refl _)
      simp only [List.append_nil] at k1
      simp only at k3 k4 k5 k6 k7
      have hlog : tk.2.1 = tail := by rw [y3, k1]
      have hsame : (SS (k + 1)).n = s'.n := by have := hF.same; rw [y3] at this; exact this
      have hq : ∀ p, (p, true) ∉ tail := by rw [← hlog]; exact hF.quiet
      have hdomk := hr.dom (k + 1) (by omega)
      have hap2 : ∀ i, i < ops.size → i ≠ k → ((i < j ∧ (fun i => listed.getD i false) i = false) ∨ (j < i ∧ (fun i => listed.getD i false) i = true)) → Apart ops SS ts oj i j := by
        intro i hi hne h
        refine apart_of hr hfree hfine hap hb hcl hj hSj hready (Array.getElem?_eq_getElem hi) h fun _ t' hm => ?_
        have := huniq j _ _ hm hmem
        simp only [Prod.mk.injEq] at this
        exact hne this.1
      have hnt : ∀ l, ¬ Touch SS (logOf ts) j l := by
        rintro l (h | h)
        · rw [lj] at h; exact x1 l h
        · rw [rj.start, rj.stop] at x2; omega
      have alt : ∀ l b, (l, b) ∈ tail → mixH SS (logOf ts) (fun i => listed.getD i false) ops.size l = (SS (k + 1)).H.get l := by
        intro l b hl
        rw [← hlog] at hl
        obtain ⟨c, hc'⟩ := x3 l b hl
        have hls : l < (SS j).n := htn.small l c hc'
        refine looked_alt hr hSj hSk hjk hklt (by rw [lj]; exact hc') hap2 fun q q1 q2 => ?_
        by_cases e : q = j
        · subst e; exact hnt l
        · have hqo := Array.getElem?_eq_getElem (show q < ops.size by omega)
          obtain ⟨tq, htq, rq⟩ := hr.rcd q _ hqo
          have lq : logOf ts q = tq.2.1 := by simp [logOf, htq]
          rintro (h | h)
          · rw [lq] at h
            exact hF.between t ht q tq (by omega) q2 htq l c hc' h
          · have := hr.mono j q (by omega) (by omega); omega
      have cutge : ∀ l, (SS (k + 1)).n ≤ l → (cut (SS (k + 1)).H tail).get l = (SS (k + 1)).H.get l := by
        intro l hl
        have e2 : (SS (k + 1)).H.get l = none := by
          cases hh : (SS (k + 1)).H.get l with
          | none => rfl
          | some o => have := hdomk l o hh; omega
        cases hh : (cut (SS (k + 1)).H tail).get l with
        | none => rw [e2]
        | some o => have := (cut_get _ _ _ hh).1; rw [e2] at this; simp at this
      obtain ⟨H2, m1, m2, m3⟩ := k7 (cut (SS (k + 1)).H tail) [] (fun l hl => by
        rcases hl with hl | ⟨b, hb'⟩
        · exact cutge l hl
        · exact cut_in _ _ l b hb')
      simp only [List.append_nil] at m1
      have sub : ∀ l o, (cut (SS (k + 1)).H tail).get l = some o → mixH SS (logOf ts) (fun i => listed.getD i false) ops.size l = some o ∧ ∃ b, (l, b) ∈ tail := by
        intro l o ho
        obtain ⟨g1, b, hb'⟩ := cut_get _ _ _ ho
        rw [alt l b hb']
        exact ⟨g1, b, hb'⟩
      have hrelc : HRel B ρ φ1 (cut (SS (k + 1)).H tail).get w1 :=
        ⟨hI.rel.base, fun l o ho ha => hI.rel.at_ l o (sub l o ho).1 ha, fun l l' o o' b N N' ho ho' ha ha' => hI.rel.inj l l' o o' b N N' (sub l o ho).1 (sub l' o' ho').1 ha ha'⟩
      have hop : ∀ x ∈ oj.op.operands, OpR ρ φ1 G (AS j) a1 x := fun x hx => eval_ok hGφ x fun t' e => slot t' (looks_operand (by rw [← e]; exact hx))
      refine oper_ok he hhook hcall hop m1 ⟨Nat.le_refl _, fun l o ho => hdomk l o (cut_get _ _ _ ho).1⟩ hGφ hrelc (fun l q1 q2 => by simp only at q1 q2; omega) _ Q fun φ' u w' hv hp => ?_
      refine ih _ φ' _ w' (by simp [hs]) hleft' hcl' ?_
      rw [hupd]
      refine inv_step0 (T := fun l => ∃ b, (l, b) ∈ tail) hI hjlt (avSame_rel y2 hv) hp ?_ (fun l _ => mixH_upd_not (hnt l)) sub (fun l q1 q2 => ?_) (fun t' => mixA_upd hj (fun i hi hlt hS => (hsl i hi (.inr ⟨hlt, hS⟩)).2) t') hdst
      · rintro l ⟨b, hb'⟩
        rw [mixH_upd_not (hnt l), alt l b hb']
        simp only
        rw [m2 l (.inr ⟨b, hb'⟩)]
        exact (k4 l (k6 l b hb') (hq l)).symm
      · have := hp.new l q1 q2
        simp only at this
        omega
    have hap' : ∀ i, i < ops.size → ((i < j ∧ (fun i => listed.getD i false) i = false) ∨ (j < i ∧ (fun i => listed.getD i false) i = true)) → Apart ops SS ts oj i j := by
      intro i hi h
      refine apart_of hr hfree hfine hap hb hcl hj hSj hready (Array.getElem?_eq_getElem hi) h fun hlt t' hm => ?_
      rcases h with h | h
      · omega
      · exact hover ⟨i, t', hlt, h.2, hm⟩
    cases hwt : WS j with
    | false =>
      rw [hwt] at hw rj
      rw [hw, if_neg (by simp)]
      obtain ⟨n1, n2, n3, n4⟩ := rj.no rfl
      refine ih _ φ1 _ w1 (by simp [hs]) hleft' hcl' ?_
      rw [hupd]
      refine inv_step (H2 := cut (SS j).H (logOf ts j)) (lg := []) hr hI hj hSj hap' ht hf (u := undef) (by rw [n1]; exact undef_rel)
        (Post.same (s := ⟨cut (SS j).H (logOf ts j), (SS j).n, (SS j).n, []⟩) (s' := ⟨cut (SS j).H (logOf ts j), (SS (j + 1)).n, (SS j).n, []⟩) ?_ rfl n4 (Fr.refl _ _)) (fun l hl => ?_) hNj hdst
      · refine ⟨hI.rel.base, fun l o ho ha => ?_, fun l l' o o' b N N' ho ho' ha ha' => ?_⟩
        · obtain ⟨_, b, hb'⟩ := cut_get _ _ _ ho
          rw [lj, n2] at hb'; simp at hb'
        · obtain ⟨_, b, hb'⟩ := cut_get _ _ _ ho
          rw [lj, n2] at hb'; simp at hb'
      · rw [lj, n2] at hl ⊢
        rcases hl with hl | ⟨b, hb'⟩
        · simp only [cut, Tr.get_leaf]
          rw [n3]
          cases hh : (SS j).H.get l with
          | none => rfl
          | some o => have := hdomj l o hh; omega
        · simp at hb'
    | true =>
      rw [hwt] at hw rj
      rw [hw, if_pos rfl]
      left
      obtain ⟨lg, y1, y2⟩ := rj.yes rfl
      obtain ⟨tail, k1, k2, k3, k4, k5, k6, k7⟩ := uni_oper hc _ _ _ y1 (Nat.le_refl _)
      simp only [List.append_nil] at k1
      simp only at k3 k4 k5 k6 k7
      subst k1
      have hlg : logOf ts j = lg := by rw [lj, y2]
      have cutge : ∀ l, (SS j).n ≤ l → (cut (SS j).H lg).get l = (SS j).H.get l := by
        intro l hl
        have e2 : (SS j).H.get l = none := by
          cases hh : (SS j).H.get l with
          | none => rfl
          | some o => have := hdomj l o hh; omega
        cases hh : (cut (SS j).H lg).get l with
        | none => rw [e2]
        | some o => have := (cut_get _ _ _ hh).1; rw [e2] at this; simp at this
      obtain ⟨H2, m1, m2, m3⟩ := k7 (cut (SS j).H lg) [] (fun l hl => by
        rcases hl with hl | ⟨b, hb'⟩
        · exact cutge l hl
        · exact cut_in _ _ l b hb')
      simp only [List.append_nil] at m1
      have hrelc : HRel B ρ φ1 (cut (SS j).H lg).get w1 := by
        have sub : ∀ l o, (cut (SS j).H lg).get l = some o → mixH SS (logOf ts) (fun i => listed.getD i false) ops.size l = some o := by
          intro l o ho
          obtain ⟨g1, b, hb'⟩ := cut_get _ _ _ ho
          rw [looked hr hj hSj hap' (by rw [hlg]; exact hb')]
          exact g1
        exact ⟨hI.rel.base, fun l o ho ha => hI.rel.at_ l o (sub l o ho) ha, fun l l' o o' b N N' ho ho' ha ha' => hI.rel.inj l l' o o' b N N' (sub l o ho) (sub l' o' ho') ha ha'⟩
      have hfr : Fresh φ1 (SS j).n (SS (j + 1)).n := by
        intro l h1 h2
        cases hh : φ1 l with
        | none => rfl
        | some x =>
          have hφl : φ l = none := hf l (by have := hr.mono 0 j (Nat.zero_le _) (by omega); omega) (by have := hr.mono (j + 1) ops.size (by omega) (Nat.le_refl _); omega)
          obtain ⟨i, i1, i2, i3, i4⟩ := hI.new l hφl (by rw [hh]; simp)
          have hne : i ≠ j := by rintro rfl; rw [hSj] at i2; simp at i2
          rcases Nat.lt_or_gt_of_ne hne with hlt | hgt
          · have := hr.mono (i + 1) j (by omega) (by omega); omega
          · have := hr.mono (j + 1) i (by omega) (by omega); omega
      have hop : ∀ x ∈ oj.op.operands, OpR ρ φ1 G (AS j) a1 x := fun x hx => eval_ok hGφ x fun t' e => slot t' (looks_operand (by rw [← e]; exact hx))
      refine oper_ok he hhook hcall hop m1 ⟨Nat.le_refl _, fun l o ho => hdomj l o (cut_get _ _ _ ho).1⟩ hGφ hrelc hfr _ Q fun φ' u w' hv hp => ?_
      refine ih _ φ' _ w' (by simp [hs]) hleft' hcl' ?_
      rw [hupd]
      rw [← hlg] at hp
      refine inv_step hr hI hj hSj hap' ht hf hv hp (fun l hl => m2 l ?_) hNj hdst
      rw [hlg] at hl
      exact hl

/-- A region whose order is drawn. -/
theorem draw_ok (he : EnvOk ρ en) (hhook : HookOk P ρ hook) (hcall : CallOk P B ρ G call) (hc : ∀ f args, Uni (call f args)) (hm : P.follows .mixedOrders = true) {ops : Array Oper} {id : Nat}
    {A A' : AAct} {s s' : St} {φ : PM} {a : Act} {w : World} (h : aRegion P G en hook call ops true A s = some (A', s')) (hG : GOk G φ) (hH : HRel B ρ φ s.H.get w) (hf : Fresh φ s.n s'.n) (hd : Dom s)
    (ha : ARel ρ φ A a) {Q : Exit → Act → World → Prop} (hQ : ∀ φ' a' w', ARel ρ φ' A' a' → Post B ρ φ φ' s s' w w' → Q .normal a' w') : (Code.region id ops true).wp P Q a w := by
  unfold aRegion at h
  dsimp only at h
  cases hok : okRegion ops with
  | false => rw [hok] at h; exact (fail_spec h).elim
  | true =>
    rw [hok] at h
    dsimp only at h
    obtain ⟨hb, hap⟩ := okRegion_spec hok
    obtain ⟨x, s1, h1, h2⟩ := bind_spec h
    obtain ⟨A1, ts, ods⟩ := x
    dsimp only at h2
    cases hfr2 : freeAll ods 0 ts (aheadOf ops).toList && oddsFine ts ods with
    | false => rw [hfr2] at h2; exact (fail_spec h2).elim
    | true =>
      rw [hfr2] at h2
      simp only [Bool.and_eq_true] at hfr2
      obtain ⟨hfr, hods⟩ := hfr2
      obtain ⟨rfl, rfl⟩ := pure_spec h2
      obtain ⟨AS, SS, VS, WS, e1, e2, e3, e4, e5, e6, e7⟩ := trace hc _ _ _ _ _ _ _ _ _ _ h1
      simp only [Array.length_toList] at e3 e4
      have halt : ∀ r w t, (r, (w, t)) ∈ ods → w < ops.size ∧ ∃ o, ops[r]? = some o ∧ WS r = true ∧ Alt P G en hook call (AS r) o (VS r) (SS (w + 1)) t := by
        intro r w t hm
        obtain ⟨i, rfl, hi, hor⟩ := e7 r w t hm
        simp only [Nat.zero_add]
        refine ⟨by simpa using hi, ?_⟩
        rcases hor with ⟨i', o, q1, rfl, q3, q4, q5⟩ | ⟨_, _, _, hp, _⟩
        · simp only [Nat.zero_add]
          exact ⟨o, by simpa using q3, q4, q5⟩
        · simp at hp
      have hr := run_of hc e6 (by rw [e2]; exact hd)
      refine wp_region_any hm ?_
      refine any_ok (φ := φ) (w := w) he hhook hcall hc hr hfr hods halt hap hb hG (by rw [e2, e4]; exact hf) (by rw [e2, e3, e4]; exact hQ) _ _ φ a _ (by simp) (left_le _) ?_ ?_
      · intro j o _ hS
        have : (Array.replicate ops.size false).getD j false = false := by
          simp only [Array.getD_eq_getD_getElem?, Array.getElem?_replicate]
          split <;> rfl
        dsimp only at hS
        rw [this] at hS; simp at hS
      · have hS : ∀ i, (fun i => (Array.replicate ops.size false).getD i false) i = false := by
          intro i
          simp only [Array.getD_eq_getD_getElem?, Array.getElem?_replicate]
          split <;> rfl
        have eH : mixH SS (logOf ts) (fun i => (Array.replicate ops.size false).getD i false) ops.size = s.H.get := funext fun l => by rw [mixH_none hS, e2]
        have hst : Still w { w with drawn := w.drawn + 1 } := Fr.drew _ _ _
        refine ⟨PM.le_refl _, fun l q1 q2 => absurd q1 q2, ?_, ⟨rfl, rfl, rfl, Nat.le_refl _, fun _ _ _ => rfl⟩, ?_, ?_, ha.defers, by rw [e1]; exact ha.size, fun t => ?_⟩
        · rw [eH]; exact hH.still hst
        · rw [eH, e2]; exact fun k hk => .inl hk
        · rw [eH, e2]; exact fun k hk => .inl hk
        · rw [mixA_none hS, e1]; exact ha.vals t
end
end Go.Ab
