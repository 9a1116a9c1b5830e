/-
  VALUES OF A RECKONING THAT KNOWS NO ADDRESS: what they stand for.
-/
import Derived.Test.YtldjfokgfapkiaaGreatDoorAbTr
import Derived.Below
namespace Go.Ab

/-- Operations on whole numbers that are not known. -/
inductive SOp where
  | add | sub | mn | mx | pk | w64 | pks | mul
  deriving DecidableEq

/-- Whole numbers: known ones, an unknown one and a bit, or a sum, and so on. -/
inductive SI where
  | c (n : Int)
  | v (i : Nat) (k : Int)
  | bop (o : SOp) (a b : SI)
  deriving DecidableEq

def SOp.val : SOp → Int → Int → Int
  | .add, a, b => a + b
  | .sub, a, b => a - b
  | .mn, a, b => if b < a then b else a
  | .mx, a, b => if a < b then b else a
  | .pk, a, b => a % 4294967296 + 4294967296 * (b % 4294967296)
  | .w64, a, _ => a % 18446744073709551616
  | .pks, a, b => a % 4294967296 + 4294967296 * b
  | .mul, a, b => a * b

def SI.val (ρ : Nat → Int) : SI → Int
  | .c n => n
  | .v i k => ρ i + k
  | .bop o a b => o.val (a.val ρ) (b.val ρ)

/-- The bits of a float64: known ones, or those of a whole number. -/
inductive SF where
  | bits (n : Nat)
  | ofI (e : SI)
  deriving DecidableEq

def SF.val (ρ : Nat → Int) : SF → Nat
  | .bits n => n
  | .ofI e => FloatKind.f64.nearest (e.val ρ)

abbrev Loc := Nat

/-- Values: a place in memory is a number of its own. -/
inductive AV where
  | bool (b : Bool)
  | int (k : IntKind) (e : SI)
  | float (k : FloatKind) (f : SF)
  | complex (k : FloatKind) (re im : SF)
  | string (s : ByteArray)
  | nilp
  | ptr (l : Loc) (off : Nat)
  | nils
  | slice (l : Loc) (off len cap : Nat)
  | gslice (l : Loc) (off len sz : Nat)
  | nilm
  | map (l : Loc)
  | func (fn : Fn) (first captured : List AV)
  | nilFunc
  | iface (t : TypeId) (v : AV)
  | nilIface
  | agg (cs : List AV)
  | tuple (vs : List AV)

/-- What lies at a place. -/
inductive AObj where
  | dead
  | cells (ro gr : Bool) (elem : TypeId) (cs : List AV)
  | map (es : List (AV × AV × Option Nat)) (clock : Option Nat)

/-- Where places lie: the block, and how many cells it has. -/
abbrev PM := Nat → Option (Nat × Nat)

def PM.le (φ φ' : PM) : Prop := ∀ l x, φ l = some x → φ' l = some x

mutual
inductive VRel (ρ : Nat → Int) (φ : PM) : AV → Value → Prop
  | bool (b : Bool) : VRel ρ φ (.bool b) (.bool b)
  | int (k : IntKind) (e : SI) (n : Int) (h : e.val ρ = n) : VRel ρ φ (.int k e) (.int k n)
  | float (k : FloatKind) (f : SF) (n : Nat) (h : f.val ρ = n) : VRel ρ φ (.float k f) (.float k n)
  | complex (k : FloatKind) (f g : SF) (m n : Nat) (h : f.val ρ = m) (h' : g.val ρ = n) : VRel ρ φ (.complex k f g) (.complex k m n)
  | string (s : ByteArray) : VRel ρ φ (.string s) (.string s)
  | nilp : VRel ρ φ .nilp (.pointer none)
  | ptr (l off b N : Nat) (h : φ l = some (b, N)) : VRel ρ φ (.ptr l off) (.pointer (some ⟨b, off, none⟩))
  | nils : VRel ρ φ .nils (.slice none 0 0)
  | slice (l off len cap b N : Nat) (h : φ l = some (b, N)) : VRel ρ φ (.slice l off len cap) (.slice (some ⟨b, off, none⟩) len cap)
  | gslice (l off len sz b N c : Nat) (h : φ l = some (b, N)) (h1 : off + c * sz = N) (h2 : len ≤ c) (h3 : 0 < sz) :
      VRel ρ φ (.gslice l off len sz) (.slice (some ⟨b, off, none⟩) len c)
  | nilm : VRel ρ φ .nilm (.map none)
  | map (l b N : Nat) (h : φ l = some (b, N)) : VRel ρ φ (.map l) (.map (some b))
  | func (fn : Fn) (xs ys : List AV) (us vs : Array Value) (h : VRels ρ φ xs us.toList) (h' : VRels ρ φ ys vs.toList) :
      VRel ρ φ (.func fn xs ys) (.func fn us vs)
  | nilFunc : VRel ρ φ .nilFunc .nilFunc
  | iface (t : TypeId) (a : AV) (v : Value) (h : VRel ρ φ a v) : VRel ρ φ (.iface t a) (.iface t v)
  | nilIface : VRel ρ φ .nilIface .nilIface
  | agg (xs : List AV) (us : Array Value) (h : VRels ρ φ xs us.toList) : VRel ρ φ (.agg xs) (.agg us)
  | tuple (xs : List AV) (us : Array Value) (h : VRels ρ φ xs us.toList) : VRel ρ φ (.tuple xs) (.tuple us)
inductive VRels (ρ : Nat → Int) (φ : PM) : List AV → List Value → Prop
  | nil : VRels ρ φ [] []
  | cons (x : AV) (u : Value) (xs : List AV) (us : List Value) (h : VRel ρ φ x u) (h' : VRels ρ φ xs us) : VRels ρ φ (x :: xs) (u :: us)
end

section
variable {ρ : Nat → Int} {φ φ' : PM}

mutual
theorem VRel.mono (hφ : φ.le φ') : ∀ {a : AV} {v : Value}, VRel ρ φ a v → VRel ρ φ' a v
  | _, _, .bool b => .bool b
  | _, _, .int k e n h => .int k e n h
  | _, _, .float k f n h => .float k f n h
  | _, _, .complex k f g m n h h' => .complex k f g m n h h'
  | _, _, .string s => .string s
  | _, _, .nilp => .nilp
  | _, _, .ptr l off b N h => .ptr l off b N (hφ _ _ h)
  | _, _, .nils => .nils
  | _, _, .slice l off len cap b N h => .slice l off len cap b N (hφ _ _ h)
  | _, _, .gslice l off len sz b N c h h1 h2 h3 => .gslice l off len sz b N c (hφ _ _ h) h1 h2 h3
  | _, _, .nilm => .nilm
  | _, _, .map l b N h => .map l b N (hφ _ _ h)
  | _, _, .func fn xs ys us vs h h' => .func fn xs ys us vs (VRels.mono hφ h) (VRels.mono hφ h')
  | _, _, .nilFunc => .nilFunc
  | _, _, .iface t a v h => .iface t a v (VRel.mono hφ h)
  | _, _, .nilIface => .nilIface
  | _, _, .agg xs us h => .agg xs us (VRels.mono hφ h)
  | _, _, .tuple xs us h => .tuple xs us (VRels.mono hφ h)
theorem VRels.mono (hφ : φ.le φ') : ∀ {a : List AV} {v : List Value}, VRels ρ φ a v → VRels ρ φ' a v
  | _, _, .nil => .nil
  | _, _, .cons x u xs us h h' => .cons x u xs us (VRel.mono hφ h) (VRels.mono hφ h')
end

theorem PM.le_refl (φ : PM) : φ.le φ := fun _ _ h => h
theorem PM.le_trans {a b c : PM} (h : a.le b) (h' : b.le c) : a.le c := fun _ _ x => h' _ _ (h _ _ x)

theorem VRels.length {xs : List AV} {us : List Value} (h : VRels ρ φ xs us) : us.length = xs.length := by
  induction xs generalizing us with
  | nil => cases h; rfl
  | cons x xs ih => cases h with | cons _ u _ us h h' => simp [ih h']
theorem VRels.get {xs : List AV} {us : List Value} (h : VRels ρ φ xs us) {i : Nat} {x : AV} (hx : xs[i]? = some x) : ∃ u, us[i]? = some u ∧ VRel ρ φ x u := by
  induction xs generalizing us i with
  | nil => simp at hx
  | cons y ys ih =>
    cases h with
    | cons _ u _ us h h' =>
      cases i with
      | zero => simp at hx; subst hx; exact ⟨u, by simp, h⟩
      | succ i => simpa using ih h' (by simpa using hx)
theorem VRels.append {xs ys : List AV} {us vs : List Value} (h : VRels ρ φ xs us) (h' : VRels ρ φ ys vs) : VRels ρ φ (xs ++ ys) (us ++ vs) := by
  induction xs generalizing us with
  | nil => cases h; exact h'
  | cons x xs ih => cases h with | cons _ u _ us h h2 => exact .cons _ _ _ _ h (ih h2)
theorem VRels.take {xs : List AV} {us : List Value} (n : Nat) (h : VRels ρ φ xs us) : VRels ρ φ (xs.take n) (us.take n) := by
  induction xs generalizing us n with
  | nil => cases h; simp; exact .nil
  | cons x xs ih =>
    cases h with
    | cons _ u _ us h h2 =>
      cases n with
      | zero => exact .nil
      | succ n => exact .cons _ _ _ _ h (ih n h2)
theorem VRels.drop {xs : List AV} {us : List Value} (n : Nat) (h : VRels ρ φ xs us) : VRels ρ φ (xs.drop n) (us.drop n) := by
  induction xs generalizing us n with
  | nil => cases h; simp; exact .nil
  | cons x xs ih =>
    cases h with
    | cons _ u _ us h h2 =>
      cases n with
      | zero => exact .cons _ _ _ _ h h2
      | succ n => exact ih n h2
theorem VRels.set {xs : List AV} {us : List Value} (i : Nat) {x : AV} {u : Value} (h : VRels ρ φ xs us) (hx : VRel ρ φ x u) : VRels ρ φ (xs.set i x) (us.set i u) := by
  induction xs generalizing us i with
  | nil => cases h; exact .nil
  | cons y ys ih =>
    cases h with
    | cons _ v _ us h h2 =>
      cases i with
      | zero => exact .cons _ _ _ _ hx h2
      | succ i => exact .cons _ _ _ _ h (ih i h2)
end

/- KNOWN VALUES -/
mutual
def ground : Nat → AV → Option Value
  | 0, _ => none
  | _ + 1, .bool b => some (.bool b)
  | _ + 1, .int k (.c n) => some (.int k n)
  | _ + 1, .float k (.bits n) => some (.float k n)
  | _ + 1, .complex k (.bits m) (.bits n) => some (.complex k m n)
  | _ + 1, .string s => some (.string s)
  | _ + 1, .nilp => some (.pointer none)
  | _ + 1, .nils => some (.slice none 0 0)
  | _ + 1, .nilm => some (.map none)
  | _ + 1, .nilFunc => some .nilFunc
  | _ + 1, .nilIface => some .nilIface
  | f + 1, .iface t v => (ground f v).map (.iface t ·)
  | f + 1, .agg cs => (grounds f cs).map (fun l => .agg l.toArray)
  | f + 1, .tuple cs => (grounds f cs).map (fun l => .tuple l.toArray)
  | _ + 1, _ => none
def grounds : Nat → List AV → Option (List Value)
  | 0, _ => none
  | _ + 1, [] => some []
  | f + 1, x :: xs => match ground f x with
    | none => none
    | some v => (grounds f xs).map (v :: ·)
end

mutual
def toAV : Nat → Value → Option AV
  | 0, _ => none
  | _ + 1, .bool b => some (.bool b)
  | _ + 1, .int k n => some (.int k (.c n))
  | _ + 1, .float k n => some (.float k (.bits n))
  | _ + 1, .complex k m n => some (.complex k (.bits m) (.bits n))
  | _ + 1, .string s => some (.string s)
  | _ + 1, .pointer none => some .nilp
  | _ + 1, .slice none 0 0 => some .nils
  | _ + 1, .map none => some .nilm
  | _ + 1, .nilFunc => some .nilFunc
  | _ + 1, .nilIface => some .nilIface
  | f + 1, .iface t v => (toAV f v).map (.iface t ·)
  | f + 1, .agg cs => (toAVs f cs.toList).map .agg
  | f + 1, .tuple cs => (toAVs f cs.toList).map .tuple
  | f + 1, .func fn xs ys => match toAVs f xs.toList with
    | none => none
    | some us => (toAVs f ys.toList).map (.func fn us ·)
  | _ + 1, _ => none
def toAVs : Nat → List Value → Option (List AV)
  | 0, _ => none
  | _ + 1, [] => some []
  | f + 1, x :: xs => match toAV f x with
    | none => none
    | some v => (toAVs f xs).map (v :: ·)
end

section
variable {ρ : Nat → Int} {φ : PM}

theorem ground_eq : ∀ (f : Nat), (∀ (a : AV) (v u : Value), ground f a = some v → VRel ρ φ a u → u = v) ∧
    (∀ (a : List AV) (v u : List Value), grounds f a = some v → VRels ρ φ a u → u = v) := by
  intro f
  induction f with
  | zero => exact ⟨fun a v u h => by simp [ground] at h, fun a v u h => by simp [grounds] at h⟩
  | succ f ih =>
    constructor
    · intro a v u h hr
      cases hr <;> (try simp only [ground, reduceCtorEq, Option.some.injEq, Option.map_eq_some_iff] at h)
      case int k e n he => cases e <;> simp [ground] at h; subst h; simpa [SI.val] using he.symm
      case float k e n he => cases e <;> simp [ground] at h; subst h; simpa [SF.val] using he.symm
      case complex k e g m n he hg =>
        cases e <;> cases g <;> simp [ground] at h
        subst h; simp [SF.val] at he hg; simp [he, hg]
      case iface t a v' hr' => obtain ⟨x, hx, rfl⟩ := h; rw [ih.1 _ _ _ hx hr']
      case agg xs us hr' => obtain ⟨x, hx, rfl⟩ := h; rw [← ih.2 _ _ _ hx hr']
      case tuple xs us hr' => obtain ⟨x, hx, rfl⟩ := h; rw [← ih.2 _ _ _ hx hr']
      all_goals (subst h; rfl)
    · intro a v u h hr
      cases hr with
      | nil => simp [grounds] at h; exact h.symm
      | cons x w xs us hx hxs =>
        simp only [grounds] at h
        split at h
        · simp at h
        · rename_i v' hv'
          simp only [Option.map_eq_some_iff] at h
          obtain ⟨l, hl, rfl⟩ := h
          rw [ih.1 _ _ _ hv' hx, ih.2 _ _ _ hl hxs]

theorem toAV_rel : ∀ (f : Nat), (∀ (v : Value) (a : AV), toAV f v = some a → VRel ρ φ a v) ∧
    (∀ (v : List Value) (a : List AV), toAVs f v = some a → VRels ρ φ a v) := by
  intro f
  induction f with
  | zero => exact ⟨fun a v h => by simp [toAV] at h, fun a v h => by simp [toAVs] at h⟩
  | succ f ih =>
    constructor
    · intro v a h
      cases v
      case bool b => simp only [toAV, Option.some.injEq] at h; subst h; exact .bool _
      case int k n => simp only [toAV, Option.some.injEq] at h; subst h; exact .int _ _ _ rfl
      case float k n => simp only [toAV, Option.some.injEq] at h; subst h; exact .float _ _ _ rfl
      case complex k m n => simp only [toAV, Option.some.injEq] at h; subst h; exact .complex _ _ _ _ _ rfl rfl
      case string s => simp only [toAV, Option.some.injEq] at h; subst h; exact .string _
      case pointer p =>
        cases p with
        | none => simp only [toAV, Option.some.injEq] at h; subst h; exact .nilp
        | some p => simp [toAV] at h
      case slice p m n =>
        cases p with
        | none => cases m <;> cases n <;> simp [toAV] at h; subst h; exact .nils
        | some p => simp [toAV] at h
      case map p =>
        cases p with
        | none => simp only [toAV, Option.some.injEq] at h; subst h; exact .nilm
        | some p => simp [toAV] at h
      case chan p => simp [toAV] at h
      case nilFunc => simp only [toAV, Option.some.injEq] at h; subst h; exact .nilFunc
      case nilIface => simp only [toAV, Option.some.injEq] at h; subst h; exact .nilIface
      case iface t x => simp only [toAV, Option.map_eq_some_iff] at h; obtain ⟨y, hy, rfl⟩ := h; exact .iface _ _ _ (ih.1 _ _ hy)
      case agg x => simp only [toAV, Option.map_eq_some_iff] at h; obtain ⟨y, hy, rfl⟩ := h; exact .agg _ _ (ih.2 _ _ hy)
      case tuple x => simp only [toAV, Option.map_eq_some_iff] at h; obtain ⟨y, hy, rfl⟩ := h; exact .tuple _ _ (ih.2 _ _ hy)
      case func fn x y =>
        simp only [toAV] at h
        split at h
        · simp at h
        · rename_i us hus
          simp only [Option.map_eq_some_iff] at h
          obtain ⟨z, hz, rfl⟩ := h
          exact .func _ _ _ _ _ (ih.2 _ _ hus) (ih.2 _ _ hz)
    · intro v a h
      cases v with
      | nil => simp only [toAVs, Option.some.injEq] at h; subst h; exact .nil
      | cons x xs =>
        simp only [toAVs] at h
        split at h
        · simp at h
        · rename_i v' hv'
          simp only [Option.map_eq_some_iff] at h
          obtain ⟨l, hl, rfl⟩ := h
          exact .cons _ _ _ _ (ih.1 _ _ hv') (ih.2 _ _ hl)
end
end Go.Ab
