/-
  EACH OPERATION OF THE RECKONING is one of the model's: all of them.
-/
import Derived.Test.YtldjfokgfapkiaaGreatDoorAbBits
namespace Go.Ab

section
variable {P : Program} {B : Nat} {ρ : Nat → Int} {φ : PM} {en : Env} {G : Nat} {A : AAct} {a : Act}

theorem copy_sim {ts : Array TypeId} {t t2 : Nat} {d s : AV} {dv sv : Value} (h0 : ts[0]? = some t) (hd : VRel ρ φ d dv) (hs : VRel ρ φ s sv) :
    SimV P B ρ φ (aCopy P t d s) (Builtin.copy_ ts t2 #[dv, sv]) := by
  unfold aCopy
  split
  · rename_i el m n hel hm hn
    have hu := elemT_spec hel
    split
    · exact SimV.fail
    · rename_i size hsz
      intro st v s' w hmm hH hf
      obtain ⟨new, s1, hcells, h2⟩ := bind_spec hmm
      obtain ⟨eH, en', C, hrun, hrel, hlen⟩ := cells_run (P := P) hs hcells hH
      obtain ⟨xa, xc, rfl⟩ := lenAV_rel hs hn
      have hr1 := hrun w rfl
      have same1 : Post B ρ φ φ st s1 w w := Post.same hH eH en' (Fr.refl _ _)
      have hlenOf : ∀ w, (Builtin.lenOf (.slice xa n xc)).run P w = .ok n w := fun _ => rfl
      have e0 : ∀ x y : Value, (#[x, y] : Array Value)[0]? = some x := fun _ _ => rfl
      have e1 : ∀ x y : Value, (#[x, y] : Array Value)[1]? = some y := fun _ _ => rfl
      cases hd with
      | nils =>
        simp only [lenAV, Option.some.injEq] at hm
        subst hm
        obtain ⟨rfl, rfl⟩ := pure_spec h2
        refine ⟨φ, goInt 0, w, ?_, .int _ _ _ rfl, same1⟩
        simp only [Nat.min_zero] at hr1
        simp [Builtin.copy_, h0, under_run hu, hlenOf, szOf_run hsz, hr1]
      | slice l off len cap b N hφ =>
        simp only [lenAV, Option.some.injEq] at hm
        subst hm
        dsimp only at h2
        obtain ⟨uu, s2, hov, h3⟩ := bind_spec h2
        obtain ⟨rfl, rfl⟩ := pure_spec h3
        obtain ⟨φ', w', hr, hp⟩ := over_sim (P := P) (B := B) hrel hφ s1 _ _ w hov same1.rel (by rw [en']; exact hf)
        refine ⟨φ', goInt (Nat.min n len), w', ?_, .int _ _ _ rfl, same1.trans hp⟩
        simp [Builtin.copy_, h0, under_run hu, hlenOf, szOf_run hsz, hr1, hr]
      | gslice l off len sz b N c hφ q1 q2 q3 =>
        simp only [lenAV, Option.some.injEq] at hm
        subst hm
        dsimp only at h2
        obtain ⟨uu, s2, hov, h3⟩ := bind_spec h2
        obtain ⟨rfl, rfl⟩ := pure_spec h3
        obtain ⟨φ', w', hr, hp⟩ := over_sim (P := P) (B := B) hrel hφ s1 _ _ w hov same1.rel (by rw [en']; exact hf)
        refine ⟨φ', goInt (Nat.min n len), w', ?_, .int _ _ _ rfl, same1.trans hp⟩
        simp [Builtin.copy_, h0, under_run hu, hlenOf, szOf_run hsz, hr1, hr]
      | _ => simp [lenAV] at hm
  · exact SimV.fail

theorem minmax_val (he : EnvOk ρ en) {o : SOp} (ho : o = .mn ∨ o = .mx) {f g : SF} {v : AV} (h : aMinMax en o f g = some v) :
    ∃ u, (∀ w, (match o with | .mn => Builtin.min2 (.float .f64 (f.val ρ)) (.float .f64 (g.val ρ)) | _ => Builtin.max2 (.float .f64 (f.val ρ)) (.float .f64 (g.val ρ)) : Sem Value).run P w = .ok u w) ∧ VRel ρ φ v u := by
  unfold aMinMax at h
  split at h
  · rename_i x y hx hy
    rw [sfInt_ok (ρ := ρ) hx, sfInt_ok (ρ := ρ) hy]
    split at h
    · rename_i hs
      simp only [Bool.and_eq_true] at hs
      have h1 := small_ok he hs.1
      have h2 := small_ok he hs.2
      have h51 : (2 : Nat) ^ 50 ≤ 2 ^ 51 := by decide
      have hord := order_int (m := x.val ρ) (n := y.val ρ) (by omega) (by omega)
      simp only [Option.some.injEq] at h
      subst h
      rcases ho with rfl | rfl
      · refine ⟨.float .f64 (FloatKind.f64.nearest (if y.val ρ < x.val ρ then y.val ρ else x.val ρ)), fun w => ?_, .float _ _ _ (by simp [SF.val, SI.val, SOp.val])⟩
        simp only [Builtin.min2, hord]
        rcases Int.lt_trichotomy (x.val ρ) (y.val ρ) with hlt | heq | hgt
        · have e : (if y.val ρ < x.val ρ then y.val ρ else x.val ρ) = x.val ρ := if_neg (by omega)
          rw [Int.compare_eq_lt.2 hlt, e]; rfl
        · rw [heq]; simp
        · have e : (if y.val ρ < x.val ρ then y.val ρ else x.val ρ) = y.val ρ := if_pos hgt
          rw [Int.compare_eq_gt.2 hgt, e]; rfl
      · refine ⟨.float .f64 (FloatKind.f64.nearest (if x.val ρ < y.val ρ then y.val ρ else x.val ρ)), fun w => ?_, .float _ _ _ (by simp [SF.val, SI.val, SOp.val])⟩
        simp only [Builtin.max2, hord]
        rcases Int.lt_trichotomy (x.val ρ) (y.val ρ) with hlt | heq | hgt
        · have e : (if x.val ρ < y.val ρ then y.val ρ else x.val ρ) = y.val ρ := if_pos hlt
          rw [Int.compare_eq_lt.2 hlt, e]; rfl
        · rw [heq]; simp
        · have e : (if x.val ρ < y.val ρ then y.val ρ else x.val ρ) = x.val ρ := if_neg (by omega)
          rw [Int.compare_eq_gt.2 hgt, e]; rfl
    · simp at h
  · simp at h

theorem one_arg {x : AV} {vs : Array Value} (h : VRels ρ φ [x] vs.toList) : ∃ v, vs = #[v] ∧ VRel ρ φ x v := by
  obtain ⟨l⟩ := vs
  cases h with
  | cons _ u _ us h1 h2 => cases h2 with | nil => exact ⟨u, rfl, h1⟩
theorem two_args {x y : AV} {vs : Array Value} (h : VRels ρ φ [x, y] vs.toList) : ∃ u v, vs = #[u, v] ∧ VRel ρ φ x u ∧ VRel ρ φ y v := by
  obtain ⟨l⟩ := vs
  cases h with
  | cons _ u _ us h1 h2 => cases h2 with
    | cons _ v _ us h3 h4 => cases h4 with | nil => exact ⟨u, v, rfl, h1, h3⟩
theorem arr_get {α : Type} {l : Array α} {r : List α} (h : l.toList = r) (i : Nat) : l[i]? = r[i]? := by rw [← h]; simp

theorem isSl_spec {t : Nat} (h : isSl P t = true) : ∃ e, P.underlying t = some (.slice e) := by
  unfold isSl at h
  split at h
  · rename_i e he; exact ⟨e, he⟩
  · simp at h

theorem pureN_sim {v : AV} {sem : Sem Next} {u : Value} (hr : ∀ w, sem.run P w = .ok (.value u) w) (hv : VRel ρ φ v u) : SimN P B ρ φ (EM.pure v) sem := by
  intro s v' s' w hm hH _
  obtain ⟨rfl, rfl⟩ := pure_spec hm
  exact ⟨φ, u, w, .inl (hr w), hv, Post.same hH rfl rfl (Fr.refl _ _)⟩

theorem complex_run (ts : Array TypeId) (t2 : Nat) (cs : Array Bool) (k : FloatKind) (m n : Nat) (w : World) :
    (builtin .complex ts t2 cs #[.float k m, .float k n]).run P w = .ok (.value (.complex k m n)) w := by cases k <;> rfl

/-- A builtin function. -/
theorem builtin_sim (he : EnvOk ρ en) {b : Builtin} {ts : Array TypeId} {t2 : Nat} {cs : Array Bool} {args : List AV} {vs : Array Value} {m : EM AV} (hv : VRels ρ φ args vs.toList)
    (h : aBuiltin P en b ts.toList args = some m) : SimN P B ρ φ m (builtin b ts t2 cs vs) := by
  unfold aBuiltin at h
  split at h
  · -- len
    rename_i t x hts
    obtain ⟨v0, rfl, h0⟩ := one_arg hv
    split at h
    · rename_i n hsl hn
      simp only [Option.some.injEq] at h
      subst h
      obtain ⟨e, hu⟩ := isSl_spec hsl
      obtain ⟨ba, c, rfl⟩ := lenAV_rel h0 hn
      refine pureN_sim (u := goInt n) (fun w => ?_) (.int _ _ _ rfl)
      have ht : ts[0]? = some t := arr_get hts 0
      simp [builtin, Builtin.len_, ht, under_run hu]
    · simp at h
  · -- real
    obtain ⟨v0, rfl, h0⟩ := one_arg hv
    simp only [Option.some.injEq] at h
    subst h
    cases h0 with
    | complex _ _ _ _ _ h1 h2 => exact pureN_sim (fun w => rfl) (.float _ _ _ h1)
  · -- imag
    obtain ⟨v0, rfl, h0⟩ := one_arg hv
    simp only [Option.some.injEq] at h
    subst h
    cases h0 with
    | complex _ _ _ _ _ h1 h2 => exact pureN_sim (fun w => rfl) (.float _ _ _ h2)
  · -- complex
    obtain ⟨v0, v1, rfl, h0, h1⟩ := two_args hv
    split at h
    · rename_i hk
      simp only [decide_eq_true_eq] at hk
      simp only [Option.some.injEq] at h
      subst h hk
      cases h0 with
      | float _ _ _ h0 => cases h1 with
        | float _ _ _ h1 => exact pureN_sim (fun w => complex_run _ _ _ _ _ _ _) (.complex _ _ _ _ _ h0 h1)
    · simp at h
  · -- min
    obtain ⟨v0, v1, rfl, h0, h1⟩ := two_args hv
    split at h
    · simp at h
    · simp only [Option.some.injEq] at h
      subst h
      refine SimN.lift fun v hx => ?_
      obtain ⟨u, hu, hr⟩ := minmax_val (P := P) (φ := φ) he (.inl rfl) hx
      cases h0 with
      | float _ _ _ h0 => cases h1 with
        | float _ _ _ h1 =>
          subst h0 h1
          exact ⟨u, fun w => .inl (by have := hu w; simp only at this; simp [builtin, Builtin.min_, this]), hr⟩
  · -- max
    obtain ⟨v0, v1, rfl, h0, h1⟩ := two_args hv
    split at h
    · simp at h
    · simp only [Option.some.injEq] at h
      subst h
      refine SimN.lift fun v hx => ?_
      obtain ⟨u, hu, hr⟩ := minmax_val (P := P) (φ := φ) he (.inr rfl) hx
      cases h0 with
      | float _ _ _ h0 => cases h1 with
        | float _ _ _ h1 =>
          subst h0 h1
          exact ⟨u, fun w => .inl (by have := hu w; simp only at this; simp [builtin, Builtin.max_, this]), hr⟩
  · -- append
    rename_i t xt s x hts
    obtain ⟨v0, v1, rfl, h0, h1⟩ := two_args hv
    simp only [Option.some.injEq] at h
    subst h
    exact (append_sim (arr_get hts 0) (arr_get hts 1) h0 h1).next
  · -- copy
    rename_i t r d s hts
    obtain ⟨v0, v1, rfl, h0, h1⟩ := two_args hv
    simp only [Option.some.injEq] at h
    subst h
    exact (copy_sim (arr_get hts 0) h0 h1).next
  · -- delete
    rename_i t r m0 k hts
    obtain ⟨v0, v1, rfl, h0, h1⟩ := two_args hv
    simp only [Option.some.injEq] at h
    subst h
    exact (delete_sim he (arr_get hts 0) h0 h1).next
  · simp at h

theorem conv_val (he : EnvOk ρ en) {src dst : Nat} {x v : AV} {u : Value} (hx : VRel ρ φ x u) (h : aConv P en src dst x = some v) :
    ∃ r, (∀ w, (convert src dst u).run P w = .ok r w) ∧ VRel ρ φ v r := by
  unfold aConv at h
  split at h
  · rename_i k1 k k2 e hs hd
    split at h
    · rename_i hr
      simp only [Option.some.injEq] at h; subst h
      cases hx with
      | int _ _ n hn =>
        have := wrap_in (inR_ok he hr)
        exact ⟨.int k (e.val ρ), fun w => by simp [convert, under_run hs, under_run hd, Conv.intToInt, ← hn, this], .int _ _ _ rfl⟩
    · cases hx with
      | int _ _ n hn => exact ⟨.int k (k.wrap (e.val ρ)), fun w => by simp [convert, under_run hs, under_run hd, Conv.intToInt, ← hn], aWrap_ok he h⟩
  · rename_i k1 k2 e hs hd
    simp only [Option.some.injEq] at h; subst h
    cases hx with
    | int _ _ n hn => exact ⟨.float .f64 (FloatKind.f64.nearest (e.val ρ)), fun w => by simp [convert, under_run hs, under_run hd, Conv.intToFloat, ← hn], .float _ _ _ rfl⟩
  · rename_i k1 k e hs hd
    split at h
    · rename_i hr
      simp only [Bool.and_eq_true] at hr
      simp only [Option.some.injEq] at h; subst h
      cases hx with
      | float _ _ n hn =>
        have h1 := small_ok he hr.1
        have h2 := inR_ok he hr.2
        have h51 : (2 : Nat) ^ 50 ≤ 2 ^ 51 := by decide
        have ht := toInt_int (n := e.val ρ) (by omega)
        simp only [SF.val] at hn
        exact ⟨.int k (e.val ρ), fun w => by simp [convert, under_run hs, under_run hd, Conv.floatToInt, ← hn, ht, h2], .int _ _ _ rfl⟩
    · simp at h
  · simp at h

theorem nk_pointer {t : Nat} (h : nilKind P t = 0) : ∃ e, P.underlying t = some (.pointer e) := by
  unfold nilKind at h; split at h <;> first | exact ⟨_, ‹_›⟩ | simp at h
theorem nk_slice {t : Nat} (h : nilKind P t = 1) : ∃ e, P.underlying t = some (.slice e) := by
  unfold nilKind at h; split at h <;> first | (simp at h; done) | exact ⟨_, ‹_›⟩
theorem nk_map {t : Nat} (h : nilKind P t = 2) : ∃ k e, P.underlying t = some (.map k e) := by
  unfold nilKind at h; split at h <;> first | (simp at h; done) | exact ⟨_, _, ‹_›⟩
theorem nk_func {t : Nat} (h : nilKind P t = 3) : ∃ a b c, P.underlying t = some (.func a b c) := by
  unfold nilKind at h; split at h <;> first | (simp at h; done) | exact ⟨_, _, _, ‹_›⟩
theorem nk_iface {t : Nat} (h : nilKind P t = 4) : ∃ e, P.underlying t = some (.interface e) := by
  unfold nilKind at h; split at h <;> first | (simp at h; done) | exact ⟨_, ‹_›⟩

/-- nil and what is not nil. -/
inductive NilPair : TypeDesc → Value → Value → Prop
  | p1 (e : TypeId) (a : Addr) : NilPair (.pointer e) (.pointer none) (.pointer (some a))
  | p2 (e : TypeId) (a : Addr) : NilPair (.pointer e) (.pointer (some a)) (.pointer none)
  | s1 (e : TypeId) (a : Addr) (m n : Nat) : NilPair (.slice e) (.slice none 0 0) (.slice (some a) m n)
  | s2 (e : TypeId) (a : Addr) (m n : Nat) : NilPair (.slice e) (.slice (some a) m n) (.slice none 0 0)
  | m1 (k e : TypeId) (r : Nat) : NilPair (.map k e) (.map none) (.map (some r))
  | m2 (k e : TypeId) (r : Nat) : NilPair (.map k e) (.map (some r)) (.map none)
  | f1 (x y : Array TypeId) (z : Bool) (f : Fn) (u v : Array Value) : NilPair (.func x y z) .nilFunc (.func f u v)
  | f2 (x y : Array TypeId) (z : Bool) (f : Fn) (u v : Array Value) : NilPair (.func x y z) (.func f u v) .nilFunc
  | i1 (ms : Array (String × TypeId)) (t : TypeId) (v : Value) : NilPair (.interface ms) .nilIface (.iface t v)
  | i2 (ms : Array (String × TypeId)) (t : TypeId) (v : Value) : NilPair (.interface ms) (.iface t v) .nilIface

theorem equalIn_nil {d t : Nat} {D : TypeDesc} {u z : Value} (hp : NilPair D u z) (hu : P.underlying t = some D) (w : World) : (Op.equalIn (d + 1) t u z).run P w = .ok false w := by
  cases hp <;> simp only [Op.equalIn, Sem.run_bind, under_run hu, Result.andThen_ok] <;> rfl

theorem nilPair_run {op : BinOp} {t : Nat} {D : TypeDesc} {u z : Value} {a1 a2 : Operand} {v : AV} (hp : NilPair D u z) (hu : P.underlying t = some D)
    (h : (match op with | .eql => some (AV.bool false) | .neq => some (.bool true) | _ => none) = some v) :
    ∃ r, (∀ w, (do eqGuard op t a1 a2 u z; binOp op t u z : Sem Value).run P w = .ok r w) ∧ VRel ρ φ v r := by
  have he := fun w => equalIn_nil (P := P) (d := 9999) hp hu w
  have hb : ∀ w, (binOp .eql t u z).run P w = .ok (.bool false) w := by
    intro w
    cases hp <;> (show (do pure (.bool (← Op.equalIn (9999 + 1) t _ _)) : Sem Value).run P w = _) <;> rw [Sem.run_bind, he] <;> rfl
  have hb' : ∀ w, (binOp .neq t u z).run P w = .ok (.bool true) w := by
    intro w
    cases hp <;> (show (do pure (.bool (!(← Op.equalIn (9999 + 1) t _ _))) : Sem Value).run P w = _) <;> rw [Sem.run_bind, he] <;> rfl
  have hg : eqGuard .eql t a1 a2 u z = pure () := by cases hp <;> rfl
  have hg' : eqGuard .neq t a1 a2 u z = pure () := by cases hp <;> rfl
  cases op <;> simp only [reduceCtorEq, Option.some.injEq] at h <;> subst h
  · exact ⟨.bool false, fun w => by rw [hg]; exact hb w, .bool _⟩
  · exact ⟨.bool true, fun w => by rw [hg']; exact hb' w, .bool _⟩

theorem nil_val {op : BinOp} {t : Nat} {x y v : AV} {u z : Value} {a1 a2 : Operand} (hx : VRel ρ φ x u) (hy : VRel ρ φ y z) (h : aNil P op t x y = some v) :
    ∃ r, (∀ w, (do eqGuard op t a1 a2 u z; binOp op t u z : Sem Value).run P w = .ok r w) ∧ VRel ρ φ v r := by
  unfold aNil at h
  split at h
  · simp at h
  · rename_i hk
    simp only [Bool.and_eq_true] at hk
    have k1 := Nat.eq_of_beq_eq_true hk.1
    have k2 := Nat.eq_of_beq_eq_true hk.2
    split at h
    · rename_i hn1 hn2
      cases hx <;> simp only [isNilT, reduceCtorEq, Option.some.injEq, Bool.false_eq_true] at hn1 <;> simp only [avKind] at k1 <;>
        cases hy <;> simp only [isNilT, reduceCtorEq, Option.some.injEq, Bool.true_eq_false] at hn2 <;> simp only [avKind] at k2 <;> try omega
      · obtain ⟨e, hu⟩ := nk_pointer k1; exact nilPair_run (.p1 _ _) hu h
      · obtain ⟨e, hu⟩ := nk_slice k1; exact nilPair_run (.s1 _ _ _ _) hu h
      · obtain ⟨e, hu⟩ := nk_slice k1; exact nilPair_run (.s1 _ _ _ _) hu h
      · obtain ⟨k, e, hu⟩ := nk_map k1; exact nilPair_run (.m1 _ _ _) hu h
      · obtain ⟨a, b, c, hu⟩ := nk_func k1; exact nilPair_run (.f1 _ _ _ _ _ _) hu h
      · obtain ⟨e, hu⟩ := nk_iface k1; exact nilPair_run (.i1 _ _ _) hu h
    · rename_i hn1 hn2
      cases hx <;> simp only [isNilT, reduceCtorEq, Option.some.injEq, Bool.true_eq_false] at hn1 <;> simp only [avKind] at k1 <;>
        cases hy <;> simp only [isNilT, reduceCtorEq, Option.some.injEq, Bool.false_eq_true] at hn2 <;> simp only [avKind] at k2 <;> try omega
      · obtain ⟨e, hu⟩ := nk_pointer k1; exact nilPair_run (.p2 _ _) hu h
      · obtain ⟨e, hu⟩ := nk_slice k1; exact nilPair_run (.s2 _ _ _ _) hu h
      · obtain ⟨e, hu⟩ := nk_slice k1; exact nilPair_run (.s2 _ _ _ _) hu h
      · obtain ⟨k, e, hu⟩ := nk_map k1; exact nilPair_run (.m2 _ _ _) hu h
      · obtain ⟨a, b, c, hu⟩ := nk_func k1; exact nilPair_run (.f2 _ _ _ _ _ _) hu h
      · obtain ⟨e, hu⟩ := nk_iface k1; exact nilPair_run (.i2 _ _ _) hu h
    · simp at h
end
end Go.Ab
