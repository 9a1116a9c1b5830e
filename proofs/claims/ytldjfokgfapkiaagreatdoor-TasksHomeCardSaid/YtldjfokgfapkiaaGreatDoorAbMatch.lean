/-
  ONE STATE SEEN AS ANOTHER: places renamed, what nobody reaches left out, numbers under new names.
-/
import Derived.Test.YtldjfokgfapkiaaGreatDoorAbList
namespace Go.Ab

def subI (σ : List SI) : SI → SI
  | .c n => .c n
  | .v i k => match σ[i]? with
    | some e => if k = 0 then e else siAdd e (.c k)
    | none => .v i k
  | .bop o a b => match o with
    | .add => siAdd (subI σ a) (subI σ b)
    | .mul => siMul (subI σ a) (subI σ b)
    | o => .bop o (subI σ a) (subI σ b)
/-- The numbers under their new names. -/
def newρ (σ : List SI) (ρ : Nat → Int) : Nat → Int := fun i => match σ[i]? with
  | some e => e.val ρ
  | none => ρ i
/-- The places under their new names. -/
def newφ (rl : List Nat) (φ : PM) : PM := fun l => match rl[l]? with
  | some l' => φ l'
  | none => none

section
variable (σ : List SI) (rl : List Nat)

def siM (e e2 : SI) : Bool := siEq e (subI σ e2)
def sfM : SF → SF → Bool
  | .bits m, .bits n => Nat.beq m n
  | f, .ofI e2 => match sfInt f with
    | some e => siM σ e e2
    | none => false
  | _, _ => false
def plM (l l2 : Nat) : Bool := match rl[l2]? with
  | some l' => Nat.beq l' l
  | none => false
def fnM : Fn → Fn → Bool
  | .func f, .func g => Nat.beq f g
  | _, _ => false
def listM (f : AV → AV → Bool) : List AV → List AV → Bool
  | [], [] => true
  | x :: xs, y :: ys => f x y && listM f xs ys
  | _, _ => false
def avM : Nat → AV → AV → Bool
  | 0, _, _ => false
  | n + 1, x, y => match x, y with
    | .bool a, .bool b => a == b
    | .int k e, .int k2 e2 => decide (k = k2) && siM σ e e2
    | .float k f, .float k2 f2 => decide (k = k2) && sfM σ f f2
    | .complex k f g, .complex k2 f2 g2 => decide (k = k2) && (sfM σ f f2 && sfM σ g g2)
    | .string a, .string b => decide (a = b)
    | .nilp, .nilp => true
    | .nils, .nils => true
    | .nilm, .nilm => true
    | .nilFunc, .nilFunc => true
    | .nilIface, .nilIface => true
    | .ptr l o, .ptr l2 o2 => plM rl l l2 && Nat.beq o o2
    | .slice l o m c, .slice l2 o2 m2 c2 => plM rl l l2 && (Nat.beq o o2 && (Nat.beq m m2 && Nat.beq c c2))
    | .gslice l o m c, .gslice l2 o2 m2 c2 => plM rl l l2 && (Nat.beq o o2 && (Nat.beq m m2 && Nat.beq c c2))
    | .map l, .map l2 => plM rl l l2
    | .func f a b, .func f2 a2 b2 => fnM f f2 && (listM (avM n) a a2 && listM (avM n) b b2)
    | .iface t v, .iface t2 v2 => Nat.beq t t2 && avM n v v2
    | .agg a, .agg b => listM (avM n) a b
    | .tuple a, .tuple b => listM (avM n) a b
    | _, _ => false
def ckM (a b : Option Nat) : Bool := match b with
  | none => true
  | some n => match a with
    | some m => Nat.beq m n
    | none => false
def mapM' : List (AV × AV × Option Nat) → List (AV × AV × Option Nat) → Bool
  | [], [] => true
  | (k, v, b) :: r, (k2, v2, b2) :: r2 => avM σ rl 100 k k2 && (avM σ rl 100 v v2 && (ckM b b2 && mapM' r r2))
  | _, _ => false
def objM : AObj → AObj → Bool
  | .cells ro gr el cs, .cells ro2 gr2 el2 cs2 => ro == ro2 && (gr == gr2 && (Nat.beq el el2 && listM (avM σ rl 100) cs cs2))
  | .map es ck, .map es2 ck2 => mapM' σ rl es es2 && ckM ck ck2
  | _, _ => false
noncomputable def heapM (H : Tr AObj) : List (Nat × AObj) → Bool
  | [] => true
  | (l, o) :: r => (match rl[l]? with
    | some l' => match H.get l' with
      | some o' => objM σ rl o' o
      | none => false
    | none => false) && heapM H r
noncomputable def slotsM (A : AAct) : Nat → List AV → Bool
  | _, [] => true
  | t, v :: r => avM σ rl 100 (A.get t) v && slotsM A (t + 1) r
end

noncomputable def mkH : List (Nat × AObj) → Tr AObj
  | [] => .leaf
  | (l, o) :: r => (mkH r).set l o
noncomputable def mkT : Nat → List AV → Tr AV
  | _, [] => .leaf
  | t, v :: r => (mkT (t + 1) r).set t v
def notIn (x : Nat) : List Nat → Bool
  | [] => true
  | y :: r => !Nat.beq y x && notIn x r
def noDup : List Nat → Bool
  | [] => true
  | x :: r => notIn x r && noDup r
def rootsOk (rl : List Nat) : Nat → Bool
  | 0 => true
  | g + 1 => plM rl g g && rootsOk rl g

/-- A state as it is written down. -/
structure Lit where
  n : Nat
  heap : List (Nat × AObj)
  slots : List AV
noncomputable def Lit.st (x : Lit) : St := ⟨mkH x.heap, x.n, 0, []⟩
noncomputable def Lit.act (x : Lit) : AAct := ⟨x.slots.length, mkT 0 x.slots⟩

/-- Is the state that the reckoning has come to the one that is written down? -/
noncomputable def matchB (G : Nat) (σ : List SI) (rl : List Nat) (A : AAct) (s : St) (x : Lit) : Bool :=
  Nat.beq A.N x.slots.length && (Nat.beq x.n rl.length && (noDup rl && (rootsOk rl G && (slotsM σ rl A 0 x.slots && heapM σ rl s.H x.heap))))

section
variable {ρ : Nat → Int} {φ : PM} {σ : List SI} {rl : List Nat}

theorem subI_ok : ∀ (e : SI), (subI σ e).val ρ = e.val (newρ σ ρ)
  | .c n => rfl
  | .v i k => by
    simp only [subI, SI.val, newρ]
    split
    · rename_i e he
      split
      · rename_i hk; subst hk; simp
      · rw [siAdd_ok]; rfl
    · rfl
  | .bop o a b => by
    have h1 := subI_ok a
    have h2 := subI_ok b
    cases o <;> simp only [subI, siAdd_ok, siMul_ok, SI.val, SOp.val, h1, h2]
theorem siM_ok {e e2 : SI} (h : siM σ e e2 = true) : e2.val (newρ σ ρ) = e.val ρ := by rw [siEq_ok _ _ h, subI_ok]
theorem sfM_ok {f f2 : SF} (h : sfM σ f f2 = true) : f2.val (newρ σ ρ) = f.val ρ := by
  unfold sfM at h
  split at h
  · simp only [SF.val]; exact (Nat.eq_of_beq_eq_true h).symm
  · split at h
    · rename_i e he
      rw [sfInt_ok he]
      simp only [SF.val, siM_ok h]
    · simp at h
  · simp at h
theorem plM_ok {l l2 : Nat} (h : plM rl l l2 = true) : rl[l2]? = some l := by
  unfold plM at h
  split at h
  · rename_i l' hl; rw [hl, Nat.eq_of_beq_eq_true h]
  · simp at h
theorem newφ_at {l l2 : Nat} (h : rl[l2]? = some l) : newφ rl φ l2 = φ l := by simp [newφ, h]
theorem fnM_ok {f g : Fn} (h : fnM f g = true) : f = g := by
  unfold fnM at h
  split at h
  · rw [Nat.eq_of_beq_eq_true h]
  · simp at h

theorem listM_ok {f : AV → AV → Bool} (hf : ∀ x y u, f x y = true → VRel ρ φ x u → VRel (newρ σ ρ) (newφ rl φ) y u) :
    ∀ {xs ys : List AV} {us : List Value}, listM f xs ys = true → VRels ρ φ xs us → VRels (newρ σ ρ) (newφ rl φ) ys us
  | [], [], us, _, h => by cases h; exact .nil
  | x :: xs, y :: ys, us, hm, h => by
    simp only [listM, Bool.and_eq_true] at hm
    cases h with
    | cons _ u _ us h1 h2 => exact .cons _ _ _ _ (hf _ _ _ hm.1 h1) (listM_ok hf hm.2 h2)
  | [], _ :: _, _, hm, _ => by simp [listM] at hm
  | _ :: _, [], _, hm, _ => by simp [listM] at hm

theorem avM_ok : ∀ (n : Nat) (x y : AV) (u : Value), avM σ rl n x y = true → VRel ρ φ x u → VRel (newρ σ ρ) (newφ rl φ) y u
  | 0, _, _, _, h, _ => by simp [avM] at h
  | n + 1, x, y, u, h, hx => by
    have ih := avM_ok n
    unfold avM at h
    split at h
    · cases hx; simp only [beq_iff_eq] at h; subst h; exact .bool _
    · simp only [Bool.and_eq_true, decide_eq_true_eq] at h
      obtain ⟨rfl, h⟩ := h
      cases hx with | int _ _ m hm => exact .int _ _ _ (by rw [siM_ok h, hm])
    · simp only [Bool.and_eq_true, decide_eq_true_eq] at h
      obtain ⟨rfl, h⟩ := h
      cases hx with | float _ _ m hm => exact .float _ _ _ (by rw [sfM_ok h, hm])
    · simp only [Bool.and_eq_true, decide_eq_true_eq] at h
      obtain ⟨rfl, h, h'⟩ := h
      cases hx with | complex _ _ _ m m' hm hm' => exact .complex _ _ _ _ _ (by rw [sfM_ok h, hm]) (by rw [sfM_ok h', hm'])
    · simp only [decide_eq_true_eq] at h; subst h; cases hx; exact .string _
    · cases hx; exact .nilp
    · cases hx; exact .nils
    · cases hx; exact .nilm
    · cases hx; exact .nilFunc
    · cases hx; exact .nilIface
    · simp only [Bool.and_eq_true] at h
      obtain ⟨h1, h2⟩ := h
      rw [← Nat.eq_of_beq_eq_true h2]
      cases hx with | ptr _ _ b N hφ => exact .ptr _ _ b N (by rw [newφ_at (plM_ok h1), hφ])
    · simp only [Bool.and_eq_true] at h
      obtain ⟨h1, h2, h3, h4⟩ := h
      rw [← Nat.eq_of_beq_eq_true h2, ← Nat.eq_of_beq_eq_true h3, ← Nat.eq_of_beq_eq_true h4]
      cases hx with | slice _ _ _ _ b N hφ => exact .slice _ _ _ _ b N (by rw [newφ_at (plM_ok h1), hφ])
    · simp only [Bool.and_eq_true] at h
      obtain ⟨h1, h2, h3, h4⟩ := h
      rw [← Nat.eq_of_beq_eq_true h2, ← Nat.eq_of_beq_eq_true h3, ← Nat.eq_of_beq_eq_true h4]
      cases hx with | gslice _ _ _ _ b N c hφ q1 q2 q3 => exact .gslice _ _ _ _ b N c (by rw [newφ_at (plM_ok h1), hφ]) q1 q2 q3
    · cases hx with | map _ b N hφ => exact .map _ b N (by rw [newφ_at (plM_ok h), hφ])
    · simp only [Bool.and_eq_true] at h
      obtain ⟨h1, h2, h3⟩ := h
      rw [← fnM_ok h1]
      cases hx with | func _ _ _ us vs q1 q2 => exact .func _ _ _ us vs (listM_ok ih h2 q1) (listM_ok ih h3 q2)
    · simp only [Bool.and_eq_true] at h
      rw [← Nat.eq_of_beq_eq_true h.1]
      cases hx with | iface _ _ v q => exact .iface _ _ v (ih _ _ _ h.2 q)
    · cases hx with | agg _ us q => exact .agg _ us (listM_ok ih h q)
    · cases hx with | tuple _ us q => exact .tuple _ us (listM_ok ih h q)
    · simp at h

theorem ckM_ok {a b : Option Nat} {m : Nat} (h : ckM a b = true) (ha : ∀ n, a = some n → m = n) : ∀ n, b = some n → m = n := by
  intro n hn
  subst hn
  unfold ckM at h
  dsimp only at h
  split at h
  · rename_i k; rw [ha k rfl, Nat.eq_of_beq_eq_true h]
  · simp at h
theorem mapM_ok : ∀ {es es2 : List (AV × AV × Option Nat)} {E : List MapEntry}, mapM' σ rl es es2 = true → MRel ρ φ es E → MRel (newρ σ ρ) (newφ rl φ) es2 E
  | [], [], _, _, h => by cases h; exact .nil
  | (k, v, b) :: r, (k2, v2, b2) :: r2, _, hm, h => by
    simp only [mapM', Bool.and_eq_true] at hm
    cases h with
    | cons _ _ _ e _ es h1 h2 h3 h4 => exact .cons _ _ _ _ _ _ (avM_ok _ _ _ _ hm.1 h1) (avM_ok _ _ _ _ hm.2.1 h2) (ckM_ok hm.2.2.1 h3) (mapM_ok hm.2.2.2 h4)
  | [], _ :: _, _, hm, _ => by simp [mapM'] at hm
  | _ :: _, [], _, hm, _ => by simp [mapM'] at hm

theorem objM_ok {o o2 : AObj} {N : Nat} {x : Obj} (h : objM σ rl o o2 = true) (hx : ORel ρ φ o N x) : ORel (newρ σ ρ) (newφ rl φ) o2 N x ∧ o.alive = true ∧ o2.ro = o.ro := by
  unfold objM at h
  split at h
  · simp only [Bool.and_eq_true, beq_iff_eq] at h
    obtain ⟨rfl, rfl, h3, h4⟩ := h
    have h3 := Nat.eq_of_beq_eq_true h3
    subst h3
    cases x with
    | cells C t fz =>
      obtain ⟨q1, q2, q3, q4, q5, q6⟩ := hx
      have hl := listM_ok (avM_ok 100) h4 q5
      have el := hl.length
      have el0 := q5.length
      have el0 := el0.symm.trans el
      exact ⟨⟨q1, q2, fun hg => by rw [← el0]; exact q3 hg, by rw [← el0]; exact q4, by rw [← el0]; exact hl, q6⟩, rfl, rfl⟩
    | map E c => exact hx.elim
    | _ => exact hx.elim
  · simp only [Bool.and_eq_true] at h
    cases x with
    | map E c => exact ⟨⟨mapM_ok h.1 hx.1, ckM_ok h.2 hx.2⟩, rfl, rfl⟩
    | _ => exact hx.elim
  · simp at h

theorem mkH_get : ∀ {hl : List (Nat × AObj)} {l : Nat} {o : AObj}, (mkH hl).get l = some o → (l, o) ∈ hl
  | [], l, o, h => by simp [mkH, Tr.get_leaf] at h
  | (k, p) :: r, l, o, h => by
    simp only [mkH, Tr.get_set] at h
    split at h
    · rename_i e; simp only [Option.some.injEq] at h; subst e h; simp
    · simp [mkH_get h]
theorem mkT_get : ∀ (al : List AV) (t k : Nat), (mkT t al).get k = if k < t then none else al[k - t]?
  | [], t, k => by simp [mkT, Tr.get_leaf]
  | v :: r, t, k => by
    simp only [mkT, Tr.get_set, mkT_get r]
    by_cases h1 : k = t
    · subst h1; simp
    · rw [if_neg h1]
      by_cases h2 : k < t
      · rw [if_pos h2, if_pos (by omega)]
      · rw [if_neg h2, if_neg (by omega), show k - t = (k - (t + 1)) + 1 by omega, List.getElem?_cons_succ]
theorem heapM_ok {H : Tr AObj} : ∀ {hl : List (Nat × AObj)}, heapM σ rl H hl = true → ∀ l o, (l, o) ∈ hl → ∃ l' o', rl[l]? = some l' ∧ H.get l' = some o' ∧ objM σ rl o' o = true
  | [], _, l, o, h => by simp at h
  | (k, p) :: r, hm, l, o, h => by
    simp only [heapM, Bool.and_eq_true] at hm
    rcases List.mem_cons.1 h with h | h
    · simp only [Prod.mk.injEq] at h
      obtain ⟨rfl, rfl⟩ := h
      have h1 := hm.1
      split at h1
      · rename_i l' hl
        split at h1
        · rename_i o' ho; exact ⟨l', o', hl, ho, h1⟩
        · simp at h1
      · simp at h1
    · exact heapM_ok hm.2 l o h
theorem slotsM_ok {A : AAct} : ∀ {al : List AV} {t : Nat}, slotsM σ rl A t al = true → ∀ k v, al[k]? = some v → avM σ rl 100 (A.get (t + k)) v = true
  | [], t, _, k, v, h => by simp at h
  | x :: r, t, hm, k, v, h => by
    simp only [slotsM, Bool.and_eq_true] at hm
    cases k with
    | zero => simp at h; subst h; exact hm.1
    | succ k => have := slotsM_ok hm.2 k v (by simpa using h); rwa [show t + 1 + k = t + (k + 1) by omega] at this
theorem notIn_ok {x : Nat} : ∀ {l : List Nat}, notIn x l = true → ∀ k : Nat, l[k]? ≠ some x
  | [], _, k => by simp
  | y :: r, h, k => by
    simp only [notIn, Bool.and_eq_true, Bool.not_eq_true'] at h
    cases k with
    | zero => simp; rintro rfl; simp at h
    | succ k => simpa using notIn_ok h.2 k
theorem noDup_ok : ∀ {l : List Nat}, noDup l = true → ∀ i j x : Nat, l[i]? = some x → l[j]? = some x → i = j
  | [], _, i, j, x, h, _ => by simp at h
  | y :: r, hd, i, j, x, hi, hj => by
    simp only [noDup, Bool.and_eq_true] at hd
    cases i with
    | zero =>
      simp at hi; subst hi
      cases j with
      | zero => rfl
      | succ j => exact absurd (by simpa using hj) (notIn_ok hd.1 j)
    | succ i =>
      cases j with
      | zero => simp at hj; subst hj; exact absurd (by simpa using hi) (notIn_ok hd.1 i)
      | succ j => rw [noDup_ok hd.2 i j x (by simpa using hi) (by simpa using hj)]
theorem rootsOk_ok : ∀ {G : Nat}, rootsOk rl G = true → ∀ g, g < G → rl[g]? = some g
  | 0, _, g, hg => by omega
  | G + 1, h, g, hg => by
    simp only [rootsOk, Bool.and_eq_true] at h
    by_cases e : g = G
    · subst e; exact plM_ok h.1
    · exact rootsOk_ok h.2 g (by omega)

theorem Lit.good (x : Lit) (h : ∀ l o, (l, o) ∈ x.heap → l < x.n) : Good x.st := ⟨Nat.zero_le _, fun l o ho => h l o (mkH_get ho)⟩

/-- The state that is written down stands for the same world. -/
theorem match_ok {B G : Nat} {A : AAct} {s : St} {x : Lit} {a : Act} {w : World} (h : matchB G σ rl A s x = true) (hG : GOk G φ) (hH : HRel B ρ φ s.H.get w) (ha : ARel ρ φ A a) :
    HRel B (newρ σ ρ) (newφ rl φ) x.st.H.get w ∧ ARel (newρ σ ρ) (newφ rl φ) x.act a ∧ GOk G (newφ rl φ) ∧ (∀ m, Fresh (newφ rl φ) x.st.n m) ∧ Good x.st := by
  simp only [matchB, Bool.and_eq_true] at h
  obtain ⟨h1, h2, h3, h4, h5, h6⟩ := h
  have h1 := Nat.eq_of_beq_eq_true h1
  have h2 := Nat.eq_of_beq_eq_true h2
  refine ⟨⟨hH.base, fun l o ho ha => ?_, fun l l' o o' b N N' ho ho' ha ha' hl hl' => ?_⟩, ⟨ha.defers, by rw [ha.size]; exact h1, fun t => ?_⟩, fun g hg => ?_, fun m l hl _ => ?_, ?_⟩
  · obtain ⟨k, o', e1, e2, e3⟩ := heapM_ok h6 l o (mkH_get ho)
    have alive : o'.alive = true := by cases o' <;> first | rfl | (simp [objM] at e3)
    obtain ⟨b, N, y, g1, g2, g3, g4⟩ := hH.at_ k o' e2 alive
    obtain ⟨q1, q2, q3⟩ := objM_ok e3 g3
    exact ⟨b, N, y, by rw [newφ_at e1, g1], g2, q1, fun hr => g4 (by rw [← q3]; exact hr)⟩
  · obtain ⟨k, p, e1, e2, e3⟩ := heapM_ok h6 l o (mkH_get ho)
    obtain ⟨k', p', e1', e2', e3'⟩ := heapM_ok h6 l' o' (mkH_get ho')
    have alive : p.alive = true := by cases p <;> first | rfl | (simp [objM] at e3)
    have alive' : p'.alive = true := by cases p' <;> first | rfl | (simp [objM] at e3')
    rw [newφ_at e1] at hl
    rw [newφ_at e1'] at hl'
    have := hH.inj k k' p p' b N N' e2 e2' alive alive' hl hl'
    subst this
    exact noDup_ok h3 l l' k e1 e1'
  · simp only [Lit.act, AAct.get, mkT_get]
    by_cases ht : t < x.slots.length
    · rw [if_neg (by omega), Nat.sub_zero, List.getElem?_eq_getElem ht]
      have := slotsM_ok h5 t x.slots[t] (List.getElem?_eq_getElem ht)
      rw [Nat.zero_add] at this
      exact avM_ok 100 _ _ _ this (ha.vals t)
    · rw [if_neg (by omega), Nat.sub_zero, List.getElem?_eq_none (by omega)]
      have e : a.tmps.getD t undef = undef := by
        simp only [Array.getD]
        rw [dif_neg (by have := ha.size; omega)]
      rw [e]; exact undef_rel
  · obtain ⟨N, hN⟩ := hG g hg
    exact ⟨N, by rw [newφ_at (rootsOk_ok h4 g hg), hN]⟩
  · have : rl[l]? = none := List.getElem?_eq_none (by simp only [Lit.st] at hl; omega)
    simp [newφ, this]
  · refine x.good fun l o ho => ?_
    obtain ⟨k, o', e1, _⟩ := heapM_ok h6 l o ho
    have := (List.getElem?_eq_some_iff.1 e1).1
    omega
end
end Go.Ab
