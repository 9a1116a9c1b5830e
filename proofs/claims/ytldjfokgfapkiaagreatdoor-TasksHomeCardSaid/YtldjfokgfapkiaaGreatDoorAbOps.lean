/-
  THE OPERATIONS, reckoned on values that know no address.
-/
import Derived.Test.YtldjfokgfapkiaaGreatDoorAbMem
namespace Go.Ab

def FU : Nat := 100000

/-- What runs without a look at the world. -/
def pureRun {α : Type} (P : Program) : Sem α → Option α
  | .pure a => some a
  | .program k => pureRun P (k P)
  | .mark _ k => pureRun P k
  | .choose q k => match q.forced with
    | true => pureRun P (k 0)
    | false => none
  | _ => none

theorem pureRun_run {α : Type} (P : Program) (s : Sem α) (a : α) (h : pureRun P s = some a) (w : World) : s.run P w = .ok a w := by
  induction s with
  | pure b => simp only [pureRun, Option.some.injEq] at h; subst h; rfl
  | program k ih => simp only [pureRun] at h; simp only [Sem.run]; exact ih _ h
  | mark m k ih => simp only [pureRun] at h; simp only [Sem.run]; exact ih h
  | choose q k ih =>
    simp only [pureRun] at h
    split at h
    · rename_i hq; simp only [Sem.run, hq, if_true]; exact ih _ h
    · simp at h
  | _ => simp [pureRun] at h

structure AAct where
  N : Nat
  tm : Tr AV

def undefAV : AV := .tuple []

noncomputable def AAct.get (A : AAct) (t : Nat) : AV :=
  match A.tm.get t with
  | some v => v
  | none => undefAV

noncomputable def AAct.eval (G : Nat) (A : AAct) : Operand → Option AV
  | .tmp t => some (A.get t)
  | .const v => toAV FU v
  | .global g => match Nat.blt g G with
    | true => some (.ptr g 0)
    | false => none
  | .func f => some (.func (.func f) [] [])

noncomputable def AAct.evals (G : Nat) (A : AAct) : List Operand → Option (List AV)
  | [] => some []
  | x :: xs => match A.eval G x with
    | none => none
    | some v => match A.evals G xs with
      | none => none
      | some vs => some (v :: vs)

/- whole numbers that are not known -/
abbrev Env := List (Int × Int)

def bnd (en : Env) : SI → Option (Int × Int)
  | .c n => some (n, n)
  | .v i k => match en[i]? with
    | some (lo, hi) => some (lo + k, hi + k)
    | none => none
  | .bop o a b => match bnd en a, bnd en b with
    | some (al, ah), some (bl, bh) => match o with
      | .add => some (al + bl, ah + bh)
      | .sub => some (al - bh, ah - bl)
      | .mn => some (if bl < al then bl else al, if bh < ah then bh else ah)
      | .mx => some (if al < bl then bl else al, if ah < bh then bh else ah)
      | .pk => some (0, 18446744073709551615)
      | .w64 => some (0, 18446744073709551615)
      | .pks => some (4294967296 * bl, 4294967295 + 4294967296 * bh)
      | .mul => if al = ah ∧ 0 ≤ al then some (al * bl, al * bh) else none
    | _, _ => none

def siEq : SI → SI → Bool
  | .c m, .c n => decide (m = n)
  | .v i k, .v j l => Nat.beq i j && decide (k = l)
  | .bop .add a b, .bop .add c d => siEq a c && siEq b d
  | .bop .sub a b, .bop .sub c d => siEq a c && siEq b d
  | .bop .mn a b, .bop .mn c d => siEq a c && siEq b d
  | .bop .mx a b, .bop .mx c d => siEq a c && siEq b d
  | .bop .pk a b, .bop .pk c d => siEq a c && siEq b d
  | .bop .w64 a b, .bop .w64 c d => siEq a c && siEq b d
  | .bop .pks a b, .bop .pks c d => siEq a c && siEq b d
  | .bop .mul a b, .bop .mul c d => siEq a c && siEq b d
  | _, _ => false

/-- a < b, where it is known. -/
def siLt (en : Env) : SI → SI → Option Bool
  | .c m, .c n => some (decide (m < n))
  | a, b => match a, b with
    | .v i k, .v j l => match Nat.beq i j with
      | true => some (decide (k < l))
      | false => match bnd en (.v i k), bnd en (.v j l) with
        | some (al, ah), some (bl, bh) => if ah < bl then some true else if bh ≤ al then some false else none
        | _, _ => none
    | a, b => match bnd en a, bnd en b with
      | some (al, ah), some (bl, bh) => if ah < bl then some true else if bh ≤ al then some false else none
      | _, _ => none

/-- a = b, where it is known. -/
def siEqual (en : Env) (a b : SI) : Option Bool :=
  match siEq a b with
  | true => some true
  | false => match siLt en a b with
    | some true => some false
    | _ => match siLt en b a with
      | some true => some false
      | _ => none

def isZ : SI → Bool
  | .c n => decide (n = 0)
  | _ => false
def siAdd : SI → SI → SI
  | .c m, .c n => .c (m + n)
  | .v i k, .c n => .v i (k + n)
  | .c n, .v i k => .v i (k + n)
  | .bop .add a (.c m), .c n => .bop .add a (.c (m + n))
  | a, b => match isZ b with
    | true => a
    | false => match isZ a with
      | true => b
      | false => .bop .add a b
def siSub : SI → SI → SI
  | .c m, .c n => .c (m - n)
  | .v i k, .c n => .v i (k - n)
  | .v i k, .v j l => match Nat.beq i j with
    | true => .c (k - l)
    | false => .bop .sub (.v i k) (.v j l)
  | .bop .add a (.c m), .c n => .bop .add a (.c (m - n))
  | a, b => .bop .sub a b
def siMul : SI → SI → SI
  | .c m, .c n => .c (m * n)
  | .c m, .v i k => if k = 0 then .bop .mul (.c m) (.v i 0) else .bop .add (.bop .mul (.c m) (.v i 0)) (.c (m * k))
  | a, b => .bop .mul a b
/-- What is left of a number, divided. -/
def siRem (en : Env) : SI → SI → Option SI
  | .bop .add (.bop .mul (.c m) y) (.c r), .c n => match bnd en y with
    | some (l, _) => if m = n ∧ 0 < m ∧ 0 ≤ r ∧ 0 ≤ l then some (.c (r % m)) else none
    | none => none
  | _, _ => none

def inR (en : Env) (k : IntKind) (e : SI) : Bool :=
  match bnd en e with
  | some (l, h) => decide (k.min ≤ l) && decide (h ≤ k.max)
  | none => false

def notO : Option Bool → Option AV
  | some b => some (.bool !b)
  | none => none
def yesO : Option Bool → Option AV
  | some b => some (.bool b)
  | none => none

/-- Sums, differences and tests of numbers that are not known. -/
def aInt (en : Env) (op : BinOp) (k : IntKind) (a b : SI) : Option AV :=
  match op with
  | .add => match inR en k (siAdd a b) with
    | true => some (.int k (siAdd a b))
    | false => none
  | .sub => match inR en k (siSub a b) with
    | true => some (.int k (siSub a b))
    | false => none
  | .eql => yesO (siEqual en a b)
  | .neq => notO (siEqual en a b)
  | .lss => yesO (siLt en a b)
  | .geq => notO (siLt en a b)
  | .gtr => yesO (siLt en b a)
  | .leq => notO (siLt en b a)
  | .rem => match siRem en a b with
    | some e => match inR en k a with
      | true => some (.int k e)
      | false => none
    | none => none
  | _ => none

/-- A number that has the same lower half. -/
def lo32 : SI → SI
  | .bop .w64 x _ => x
  | .bop .pk x _ => x
  | a => a
def isC (n : Int) : SI → Bool
  | .c m => decide (m = n)
  | _ => false
def isU64 : IntKind → Bool
  | .u64 => true
  | _ => false
def isI64 : IntKind → Bool
  | .i64 => true
  | _ => false
/-- Two halves, put together. -/
def orBits (en : Env) : SI → SI → Option SI
  | .bop .pk x x', .bop .pk y' y => match isC 0 x' && isC 0 y' with
    | true => some (.bop .pk x y)
    | false => match isC 0 x && isC 0 y with
      | true => some (.bop .pk y' x')
      | false => none
  | .c n, b => match decide (n = 0) && inR en .u64 b with
    | true => some b
    | false => none
  | _, _ => none
/-- Bits of numbers that are two halves. -/
def aBits (en : Env) (op : BinOp) (k : IntKind) (a : SI) (k' : IntKind) (b : SI) : Option SI :=
  match op with
  | .and => match isU64 k && (isU64 k' && isC 4294967295 b) with
    | true => some (.bop .pk (lo32 a) (.c 0))
    | false => none
  | .andNot => match isU64 k && isU64 k' with
    | false => none
    | true => match isC 18446744073709551615 b with
      | true => some (.c 0)
      | false => match isC 18446744069414584320 b with
        | true => some (.bop .pk (lo32 a) (.c 0))
        | false => none
  | .or => match isU64 k && isU64 k' with
    | true => orBits en a b
    | false => none
  | .shl => match isU64 k with
    | false => none
    | true => match isC 32 b with
      | true => some (.bop .pk (.c 0) (lo32 a))
      | false => match isC 0 b && inR en .u64 a with
        | true => some a
        | false => none
  | .shr => match isI64 k && isC 32 b with
    | false => none
    | true => match a with
      | .bop .pks _ y => some y
      | _ => none
  | _ => none

/-- The whole number of a float's bits. -/
def sfInt : SF → Option SI
  | .ofI e => some e
  | .bits n => match (FloatKind.f64.decode n).toInt .zero with
    | some m => match Nat.beq (FloatKind.f64.nearest m) n with
      | true => some (.c m)
      | false => none
    | none => none

/-- Does a number lie within plus or minus 2^50? -/
def small (en : Env) (e : SI) : Bool :=
  match bnd en e with
  | some (l, h) => decide (-1125899906842624 ≤ l) && decide (h ≤ 1125899906842624)
  | none => false

def aFloat (en : Env) (op : BinOp) (f g : SF) : Option AV :=
  match sfInt f, sfInt g with
  | some a, some b => match small en a && small en b with
    | false => none
    | true => match op with
      | .add => some (.float .f64 (.ofI (siAdd a b)))
      | .sub => some (.float .f64 (.ofI (siSub a b)))
      | .eql => yesO (siEqual en a b)
      | .neq => notO (siEqual en a b)
      | .lss => yesO (siLt en a b)
      | .geq => notO (siLt en a b)
      | .gtr => yesO (siLt en b a)
      | .leq => notO (siLt en b a)
      | _ => none
  | _, _ => none

def andO : Option Bool → Option Bool → Option Bool
  | some a, some b => some (a && b)
  | _, _ => none
def aCplx (en : Env) (op : BinOp) (a b c d : SF) : Option AV :=
  match sfInt a, sfInt b, sfInt c, sfInt d with
  | some a, some b, some c, some d => match small en a && small en b && (small en c && small en d) with
    | false => none
    | true => match op with
      | .add => some (.complex .f64 (.ofI (siAdd a c)) (.ofI (siAdd b d)))
      | .sub => some (.complex .f64 (.ofI (siSub a c)) (.ofI (siSub b d)))
      | .eql => yesO (andO (siEqual en a c) (siEqual en b d))
      | .neq => notO (andO (siEqual en a c) (siEqual en b d))
      | _ => none
  | _, _, _, _ => none

def isNilT : AV → Option Bool
  | .nilp | .nils | .nilm | .nilFunc | .nilIface => some true
  | .ptr _ _ | .slice _ _ _ _ | .gslice _ _ _ _ | .map _ | .func _ _ _ | .iface _ _ => some false
  | _ => none

/-- What kind of a type it is that nil belongs to: 0 pointer, 1 slice, 2 map, 3 function, 4 interface; 9 none of these. -/
def nilKind (P : Program) (t : TypeId) : Nat :=
  match P.underlying t with
  | some (.pointer _) => 0
  | some (.slice _) => 1
  | some (.map _ _) => 2
  | some (.func _ _ _) => 3
  | some (.interface _) => 4
  | _ => 9
def avKind : AV → Nat
  | .nilp | .ptr _ _ => 0
  | .nils | .slice _ _ _ _ | .gslice _ _ _ _ => 1
  | .nilm | .map _ => 2
  | .nilFunc | .func _ _ _ => 3
  | .nilIface | .iface _ _ => 4
  | _ => 8

/-- Comparing with nil, of which one side at least is none's. -/
def aNil (P : Program) (op : BinOp) (t : TypeId) (x y : AV) : Option AV :=
  match Nat.beq (nilKind P t) (avKind x) && Nat.beq (nilKind P t) (avKind y) with
  | false => none
  | true => match isNilT x, isNilT y with
    | some true, some false | some false, some true => match op with
      | .eql => some (.bool false)
      | .neq => some (.bool true)
      | _ => none
    | _, _ => none

def isKnownI : SI → Bool
  | .c _ => true
  | _ => false
def isKnownF : SF → Bool
  | .bits _ => true
  | _ => false

/-- A binary operation where not both sides are known. -/
def aBin (P : Program) (en : Env) (op : BinOp) (t : TypeId) (x y : AV) : Option AV :=
  match x, y with
  | .int k a, .int k' b => match aBits en op k a k' b with
    | some e => some (.int k e)
    | none => if k = k' then aInt en op k a b else none
  | .float .f64 a, .float .f64 b => aFloat en op a b
  | .complex .f64 a b, .complex .f64 c d => aCplx en op a b c d
  | x, y => aNil P op t x y

def knownAV : AV → Bool
  | .int _ e => isKnownI e
  | .float _ f => isKnownF f
  | .complex _ f g => isKnownF f && isKnownF g
  | .ptr _ _ | .slice _ _ _ _ | .gslice _ _ _ _ | .map _ | .func _ _ _ | .iface _ _ => false
  | _ => true

/-- An operation whose operands are known. -/
noncomputable def groundOps (G : Nat) (A : AAct) : List Operand → Option (List (Operand × Value))
  | [] => some []
  | x :: xs => match A.eval G x with
    | none => none
    | some v => match ground FU v with
      | none => none
      | some u => match groundOps G A xs with
        | none => none
        | some r => some ((x, u) :: r)

def opnEq : Operand → Operand → Bool
  | .tmp a, .tmp b => Nat.beq a b
  | .global a, .global b => Nat.beq a b
  | .func a, .func b => Nat.beq a b
  | _, _ => false
/-- The value of an operand by a list (a constant is its own). -/
def look (l : List (Operand × Value)) (x : Operand) : Value :=
  match x with
  | .const v => v
  | x => match l with
    | [] => undef
    | (y, v) :: r => match opnEq x y with
      | true => v
      | false => look r x

noncomputable def aGround (P : Program) (G : Nat) (A : AAct) (o : Oper) : Option AV :=
  match groundOps G A o.op.operands.toList with
  | none => none
  | some l => match pureRun P (execOp (look l) o) with
    | some (.value v) => toAV FU v
    | _ => none

/- types -/
def szOf (P : Program) (t : TypeId) : Option Nat :=
  match P.info? t with
  | some i => some i.size
  | none => none
def aggT (P : Program) (t : TypeId) : Option Bool :=
  match P.underlying t with
  | some (.struct _) | some (.array _ _) => some true
  | some _ => some false
  | none => none
def zeroAV (P : Program) (t : TypeId) : Option AV :=
  match P.info? t with
  | some i => match i.zero with
    | some v => toAV FU v
    | none => none
  | none => none
def AV.cells : AV → List AV
  | .agg cs => cs
  | v => [v]
def isCell : AV → Bool
  | .agg _ | .tuple _ => false
  | _ => true
def allCells : List AV → Bool
  | [] => true
  | x :: xs => isCell x && allCells xs

def splice (cs vs : List AV) (off : Nat) : List AV := cs.take off ++ (vs ++ cs.drop (off + vs.length))

/-- A part of a value's cells. -/
def aPart (P : Program) (t : TypeId) (cs : List AV) (off : Nat) : Option AV :=
  match aggT P t, szOf P t with
  | some true, some n => match Nat.ble (off + n) cs.length with
    | true => some (.agg ((cs.drop off).take n))
    | false => none
  | some false, some _ => cs[off]?
  | _, _ => none

noncomputable def aLoad (P : Program) (t : TypeId) : AV → EM AV
  | .ptr l off => (rd l).bind fun o => match o with
    | .cells _ _ _ cs => EM.lift (aPart P t cs off)
    | _ => EM.fail
  | _ => EM.fail
noncomputable def aStore (P : Program) (t : TypeId) (p v : AV) : EM Unit :=
  match p with
  | .ptr l off => (rd l).bind fun o => match o with
    | .cells ro gr el cs => match szOf P t with
      | some n => match Nat.beq v.cells.length n && (Nat.ble (off + n) cs.length && allCells v.cells) with
        | true => wr l (.cells ro gr el (splice cs v.cells off))
        | false => EM.fail
      | none => EM.fail
    | _ => EM.fail
  | _ => EM.fail
noncomputable def aNew (el : TypeId) (cs : List AV) : EM AV :=
  (newO (.cells false false el cs)).bind fun l => EM.pure (.ptr l 0)

/-- The fields' places. -/
def fieldsAt (P : Program) : List Field → Option (List (Nat × Nat))
  | [] => some []
  | f :: r => match szOf P f.type with
    | none => none
    | some n => match fieldsAt P r with
      | none => none
      | some l => some ((f.offset, n) :: l)
noncomputable def aFill (G : Nat) (A : AAct) (place : Nat → Option (Nat × Nat)) (cells : List AV) : List (Nat × Operand) → Option (List AV)
  | [] => some cells
  | (i, x) :: rest => match place i with
    | none => none
    | some (off, size) => match A.eval G x with
      | none => none
      | some v => match Nat.beq v.cells.length size && Nat.ble (off + size) cells.length with
        | true => aFill G A place (splice cells v.cells off) rest
        | false => none
noncomputable def aBuild (P : Program) (G : Nat) (A : AAct) (t : TypeId) (parts : List (Nat × Operand)) : Option AV :=
  match zeroAV P t with
  | none => none
  | some z => match P.underlying t with
    | some (.struct fs) => match fieldsAt P fs.toList with
      | none => none
      | some l => (aFill G A (fun i => l[i]?) z.cells parts).map .agg
    | some (.array _ el) => match szOf P el with
      | none => none
      | some n => (aFill G A (fun i => some (i * n, n)) z.cells parts).map .agg
    | _ => none
def reps (z : List AV) : Nat → List AV
  | 0 => []
  | n + 1 => z ++ reps z n
/-- The element type of a slice's. -/
def elemT (P : Program) (t : TypeId) : Option TypeId :=
  match P.underlying t with
  | some (.slice e) => some e
  | _ => none
noncomputable def aBuildSlice (P : Program) (G : Nat) (A : AAct) (t : TypeId) (len : Nat) (parts : List (Nat × Operand)) : EM AV :=
  match elemT P t with
  | none => EM.fail
  | some el => match szOf P el, zeroAV P el with
    | some n, some z => match Nat.ble (len * n) 16777216 && (Nat.beq z.cells.length n && Nat.ble 1 (len * n)) with
      | false => match parts, Nat.beq (len * n) 0 with
        | [], true => (newO (.cells false false el [])).bind fun l => EM.pure (.slice l 0 len len)
        | _, _ => EM.fail
      | true => match aFill G A (fun i => some (i * n, n)) (reps z.cells len) parts with
        | none => EM.fail
        | some cs => (newO (.cells false false el cs)).bind fun l => EM.pure (.slice l 0 len len)
    | _, _ => EM.fail

def natOf : AV → Option Nat
  | .int _ (.c (.ofNat n)) => some n
  | _ => none

noncomputable def aMakeSlice (P : Program) (t : TypeId) (len cap : AV) : EM AV :=
  match elemT P t, len, cap with
  | some el, .int .i64 (.c (.ofNat m)), .int .i64 (.c (.ofNat n)) => match P.info? el, zeroAV P el with
    | some i, some z => match Nat.ble m n && (Nat.ble n 1000000 && (Nat.ble i.bytes 10000 && (Nat.beq z.cells.length i.size && Nat.ble 1 i.size))) with
      | true => (newO (.cells false false el (reps z.cells n))).bind fun l => EM.pure (.slice l 0 m n)
      | false => EM.fail
    | _, _ => EM.fail
  | _, _, _ => EM.fail

/-- A bound of a slice expression. -/
noncomputable def aBound (G : Nat) (A : AAct) (d : Nat) : Option Operand → Option Nat
  | none => some d
  | some x => match A.eval G x with
    | some (.int _ (.c (.ofNat n))) => some n
    | _ => none
noncomputable def aSlice (P : Program) (G : Nat) (A : AAct) (t : TypeId) (x : Operand) (lo hi mx : Option Operand) : EM AV :=
  match A.eval G x, elemT P t with
  | some (.slice l off len cap), some el => match szOf P el, aBound G A cap mx, aBound G A len hi, aBound G A 0 lo with
    | some n, some m, some h, some b => match Nat.ble b h && (Nat.ble h m && (Nat.ble m cap && (mx.isNone || hi.isSome))) with
      | true => match Nat.beq m b with
        | true => EM.pure (.slice l off (h - b) (m - b))
        | false => EM.pure (.slice l (off + b * n) (h - b) (m - b))
      | false => EM.fail
    | _, _, _, _ => EM.fail
  | some (.gslice l off len sz), some el => match szOf P el, mx, aBound G A len hi, aBound G A 0 lo with
    | some n, none, some h, some b => match Nat.beq n sz && (Nat.ble b h && (Nat.ble h len && (Nat.beq b 0 || Nat.blt b len))) with
      | true => EM.pure (.gslice l (off + b * n) (h - b) sz)
      | false => EM.fail
    | _, _, _, _ => EM.fail
  | _, _ => EM.fail

noncomputable def aFieldAddr (P : Program) (s : TypeId) (x : AV) (f : Nat) : Option AV :=
  match P.underlying s, x with
  | some (.struct fs), .ptr l off => match fs[f]? with
    | some fd => match szOf P fd.type with
      | some (_ + 1) => some (.ptr l (off + fd.offset))
      | _ => none
    | none => none
  | _, _ => none
noncomputable def aField (P : Program) (s : TypeId) (x : AV) (f : Nat) : Option AV :=
  match P.underlying s, x with
  | some (.struct fs), .agg cs => match fs[f]? with
    | some fd => aPart P fd.type cs fd.offset
    | none => none
  | _, _ => none
noncomputable def aIndexAddr (P : Program) (t : TypeId) (x ix : AV) : Option AV :=
  match P.underlying t, x, natOf ix with
  | some (.slice el), .slice l off len _, some i => match szOf P el, Nat.blt i len with
    | some n, true => some (.ptr l (off + i * n))
    | _, _ => none
  | some (.slice el), .gslice l off len _, some i => match szOf P el, Nat.blt i len with
    | some n, true => some (.ptr l (off + i * n))
    | _, _ => none
  | some (.array len el), .ptr l off, some i => match szOf P el, Nat.blt i len with
    | some n, true => some (.ptr l (off + i * n))
    | _, _ => none
  | _, _, _ => none
noncomputable def aIndex (P : Program) (t : TypeId) (x ix : AV) : Option AV :=
  match P.underlying t, x, natOf ix with
  | some (.array len el), .agg cs, some i => match szOf P el, Nat.blt i len with
    | some n, true => aPart P el cs (i * n)
    | _, _ => none
  | _, _, _ => none

/- maps -/
/-- Are two parts the same, field by field? -/
def aEqFields (P : Program) (eq : TypeId → AV → AV → Option Bool) (xs ys : List AV) : List Field → Option Bool
  | [] => some true
  | f :: r => match decide (f.name ≠ "_") with
    | false => aEqFields P eq xs ys r
    | true => match aPart P f.type xs f.offset, aPart P f.type ys f.offset with
      | some a, some b => match eq f.type a b with
        | some true => aEqFields P eq xs ys r
        | some false => some false
        | none => none
      | _, _ => none
/-- Are two values the same? (Numbers that are not known may be in them.) -/
def aEqIn (P : Program) (en : Env) : Nat → TypeId → AV → AV → Option Bool
  | 0, _, _, _ => none
  | d + 1, t, x, y => match P.underlying t with
    | some (.struct fs) => match x, y with
      | .agg xs, .agg ys => match P.stoodInHeld t with
        | false => aEqFields P (aEqIn P en d) xs ys fs.toList
        | true => none
      | _, _ => none
    | some (.int _) => match x, y with
      | .int k a, .int k' b => if k = k' then siEqual en a b else none
      | _, _ => none
    | some .bool => match x, y with
      | .bool a, .bool b => some (a == b)
      | _, _ => none
    | some .string => match x, y with
      | .string a, .string b => some (a == b)
      | _, _ => none
    | _ => none
/-- Are two keys the same? Of whole numbers, and of what is known. -/
def aKeyEq (P : Program) (en : Env) (kt : TypeId) (x y : AV) : Option Bool :=
  match ground FU x, ground FU y with
  | some u, some v => pureRun P (Op.equal kt u v)
  | _, _ => aEqIn P en 10000 kt x y
def aFind (P : Program) (en : Env) (kt : TypeId) (k : AV) : List (AV × AV × Option Nat) → Nat → Option (Option (Nat × AV))
  | [], _ => some none
  | (x, v, _) :: r, i => match aKeyEq P en kt k x with
    | some true => some (some (i, v))
    | some false => aFind P en kt k r (i + 1)
    | none => none
def aChkFields (P : Program) (chk : TypeId → AV → Bool) (xs : List AV) : List Field → Bool
  | [] => true
  | f :: r => match decide (f.name ≠ "_") with
    | false => aChkFields P chk xs r
    | true => match aPart P f.type xs f.offset with
      | some a => chk f.type a && aChkFields P chk xs r
      | none => false
def aChk (P : Program) : Nat → TypeId → AV → Bool
  | 0, _, _ => false
  | d + 1, t, x => match P.underlying t with
    | some (.struct fs) => match x with
      | .agg xs => aChkFields P (aChk P d) xs fs.toList
      | _ => false
    | some (.int _) => true
    | some .bool => true
    | some .string => true
    | _ => false
/-- May a value be a key? -/
def keyOk (P : Program) (kt : TypeId) (k : AV) : Bool :=
  match ground FU k with
  | some u => match pureRun P (Instr.checkKey false 10000 kt u), pureRun P (Instr.checkKey true 10000 kt u) with
    | some (), some () => true
    | _, _ => false
  | none => aChk P 10000 kt k
def mapT (P : Program) (t : TypeId) : Option (TypeId × TypeId) :=
  match P.underlying t with
  | some (.map k e) => some (k, e)
  | _ => none

noncomputable def aLookup (P : Program) (en : Env) (t : TypeId) (x k : AV) (ok : Bool) : EM AV :=
  match mapT P t with
  | none => EM.fail
  | some (kt, et) => match keyOk P kt k, x with
    | true, .map l => (rd l).bind fun o => match o with
      | .map es _ => match aFind P en kt k es 0 with
        | some (some (_, v)) => EM.pure (match ok with | true => .tuple [v, .bool true] | false => v)
        | some none => match zeroAV P et with
          | some z => EM.pure (match ok with | true => .tuple [z, .bool false] | false => z)
          | none => EM.fail
        | none => EM.fail
      | _ => EM.fail
    | _, _ => EM.fail
def nextO : Option Nat → Option Nat
  | some n => some (n + 1)
  | none => none
/-- Would a key that is there stay as it is? -/
def keyStays (k k' : AV) : Bool :=
  match ground FU k, ground FU k' with
  | some u, some u' => Instr.sameBits 10000 u' u
  | _, _ => false
noncomputable def aMapUpdate (P : Program) (en : Env) (t : TypeId) (x k v : AV) : EM Unit :=
  match mapT P t with
  | none => EM.fail
  | some (kt, _) => match keyOk P kt k, x with
    | true, .map l => (rd l).bind fun o => match o with
      | .map es ck => match aFind P en kt k es 0 with
        | some none => wr l (.map (es ++ [(k, v, ck)]) (nextO ck))
        | some (some (i, _)) => match es[i]? with
          | some (k', _, b) => match keyStays k k' with
            | true => wr l (.map (es.set i (k, v, b)) ck)
            | false => EM.fail
          | none => EM.fail
        | none => EM.fail
      | _ => EM.fail
    | _, _ => EM.fail
/-- The entry of a key, made if there is none. -/
noncomputable def aMapEntry (P : Program) (en : Env) (t : TypeId) (x k : AV) : EM AV :=
  match mapT P t with
  | none => EM.fail
  | some (kt, et) => match keyOk P kt k, x with
    | true, .map l => (rd l).bind fun o => match o with
      | .map es ck => match aFind P en kt k es 0 with
        | some none => match zeroAV P et, ck with
          | some z, some c => (wr l (.map (es ++ [(k, z, some c)]) (some (c + 1)))).bind fun _ => EM.pure (.tuple [z, .int .i64 (.c (.ofNat c))])
          | _, _ => EM.fail
        | some (some (i, v)) => match es[i]? with
          | some (k', v2, some b) => match keyStays k k' with
            | true => (wr l (.map (es.set i (k, v2, some b)) ck)).bind fun _ => EM.pure (.tuple [v, .int .i64 (.c (.ofNat b))])
            | false => EM.fail
          | _ => EM.fail
        | none => EM.fail
      | _ => EM.fail
    | _, _ => EM.fail
/-- The place of the entry that was born so. -/
def bornAt (n : Nat) : List (AV × AV × Option Nat) → Nat → Option (Nat × AV)
  | [], _ => none
  | (k, _, some b) :: r, i => match Nat.beq b n with
    | true => some (i, k)
    | false => bornAt n r (i + 1)
  | _, _ => none
noncomputable def aEntryStore (x st v : AV) : EM Unit :=
  match x, natOf st with
  | .map l, some n => (rd l).bind fun o => match o with
    | .map es ck => match bornAt n es 0 with
      | some (i, k) => wr l (.map (es.set i (k, v, some n)) ck)
      | none => EM.fail
    | _ => EM.fail
  | _, _ => EM.fail
noncomputable def aDelete (P : Program) (en : Env) (t : TypeId) (x k : AV) : EM Unit :=
  match mapT P t with
  | none => EM.fail
  | some (kt, _) => match keyOk P kt k, x with
    | true, .map l => (rd l).bind fun o => match o with
      | .map es ck => match aFind P en kt k es 0 with
        | some none => wr l (.map es ck)
        | some (some (i, _)) => wr l (.map (es.eraseIdx i) ck)
        | none => EM.fail
      | _ => EM.fail
    | _, _ => EM.fail

/- builtin functions -/
/-- A slice's cells, the first so many elements. -/
noncomputable def aCells (size n : Nat) : AV → EM (List AV)
  | .nils => match n with
    | 0 => EM.pure []
    | _ + 1 => EM.fail
  | .slice l off len _ => (rd l).bind fun o => match o with
    | .cells _ _ _ cs => match Nat.ble n len && Nat.ble (off + n * size) cs.length with
      | true => EM.pure ((cs.drop off).take (n * size))
      | false => EM.fail
    | _ => EM.fail
  | .gslice l off len _ => (rd l).bind fun o => match o with
    | .cells _ _ _ cs => match Nat.ble n len && Nat.ble (off + n * size) cs.length with
      | true => EM.pure ((cs.drop off).take (n * size))
      | false => EM.fail
    | _ => EM.fail
  | _ => EM.fail
def lenAV : AV → Option Nat
  | .nils => some 0
  | .slice _ _ len _ => some len
  | .gslice _ _ len _ => some len
  | _ => none
/-- Cells that are overwritten. -/
noncomputable def aOver (l at_ : Nat) (new : List AV) : EM Unit :=
  (rd l).bind fun o => match o with
    | .cells ro gr el cs => match Nat.ble (at_ + new.length) cs.length && allCells new with
      | true => wr l (.cells ro gr el (splice cs new at_))
      | false => EM.fail
    | _ => EM.fail
/-- A new row that may be longer. -/
noncomputable def aGrown (el n size : Nat) (cs : List AV) : EM AV :=
  (newO (.cells false true el cs)).bind fun l => EM.pure (.gslice l 0 n size)
def fits (n : Nat) : Bool := Nat.ble n 100000
/-- Is it a number's type? -/
def isIntT (P : Program) : Option TypeId → Bool
  | some u => match P.underlying u with
    | some (.int _) => true
    | some _ => false
    | none => true
  | none => true
noncomputable def aAppend (P : Program) (t : TypeId) (xt : Option TypeId) (s x : AV) : EM AV :=
  match elemT P t, lenAV s, lenAV x with
  | some el, some m, some n => match P.info? el, isIntT P xt with
    | some i, false => match Nat.ble 1 i.size && (fits (m + n) && (Nat.ble i.bytes 10000 && Nat.ble 1 i.bytes)), zeroAV P el with
      | true, some z => match Nat.beq z.cells.length i.size with
        | false => EM.fail
        | true => (aCells i.size n x).bind fun new => match n with
          | 0 => match s with
            | .gslice _ _ _ _ | .nils => EM.pure s
            | .slice l off len cap => match Nat.ble len cap with
              | true => EM.pure (.slice l off len cap)
              | false => EM.fail
            | _ => EM.fail
          | _ + 1 => match s with
            | .nils => aGrown el n i.size new
            | .slice l off len cap => match Nat.ble (len + n) cap with
              | true => (aOver l (off + len * i.size) new).bind fun _ => EM.pure (.slice l off (len + n) cap)
              | false => match fits cap with
                | true => (aCells i.size len s).bind fun old => aGrown el (len + n) i.size (old ++ new)
                | false => EM.fail
            | .gslice l off len sz => (rd l).bind fun o => match o with
              | .cells false true el' cs => match Nat.beq off 0 && (Nat.beq sz i.size && (Nat.beq cs.length (len * sz) && (Nat.beq el' el && allCells new))) with
                | true => (wr l .dead).bind fun _ => aGrown el (len + n) i.size (cs ++ new)
                | false => EM.fail
              | _ => EM.fail
            | _ => EM.fail
      | _, _ => EM.fail
    | _, _ => EM.fail
  | _, _, _ => EM.fail
noncomputable def aCopy (P : Program) (t : TypeId) (d s : AV) : EM AV :=
  match elemT P t, lenAV d, lenAV s with
  | some el, some m, some n => match szOf P el with
    | none => EM.fail
    | some size => (aCells size (Nat.min n m) s).bind fun new => match d with
      | .nils => EM.pure (.int .i64 (.c (.ofNat 0)))
      | .slice l off _ _ => (aOver l off new).bind fun _ => EM.pure (.int .i64 (.c (.ofNat (Nat.min n m))))
      | .gslice l off _ _ => (aOver l off new).bind fun _ => EM.pure (.int .i64 (.c (.ofNat (Nat.min n m))))
      | _ => EM.fail
  | _, _, _ => EM.fail
/-- The lesser, or the greater, one of two floats that are whole numbers. -/
def aMinMax (en : Env) (o : SOp) (f g : SF) : Option AV :=
  match sfInt f, sfInt g with
  | some a, some b => match small en a && small en b with
    | true => some (.float .f64 (.ofI (.bop o a b)))
    | false => none
  | _, _ => none
def isSl (P : Program) (t : TypeId) : Bool :=
  match P.underlying t with
  | some (.slice _) => true
  | _ => false
/-- A builtin function that has a rule of its own; else what is known is reckoned. -/
noncomputable def aBuiltin (P : Program) (en : Env) (b : Builtin) (ts : List TypeId) (args : List AV) : Option (EM AV) :=
  match b, ts, args with
  | .len, [t], [x] => match isSl P t, lenAV x with
    | true, some n => some (EM.pure (.int .i64 (.c (.ofNat n))))
    | _, _ => none
  | .real, _, [.complex k re _] => some (EM.pure (.float k re))
  | .imag, _, [.complex k _ im] => some (EM.pure (.float k im))
  | .complex, _, [.float k re, .float k' im] => match decide (k = k') with
    | true => some (EM.pure (.complex k re im))
    | false => none
  | .min, _, [.float .f64 f, .float .f64 g] => match isKnownF f && isKnownF g with
    | true => none
    | false => some (EM.lift (aMinMax en .mn f g))
  | .max, _, [.float .f64 f, .float .f64 g] => match isKnownF f && isKnownF g with
    | true => none
    | false => some (EM.lift (aMinMax en .mx f g))
  | .append, [t, xt], [s, x] => some (aAppend P t (some xt) s x)
  | .copy, t :: _, [d, s] => some (aCopy P t d s)
  | .delete, t :: _, [m, k] => some ((aDelete P en t m k).bind fun _ => EM.pure undefAV)
  | _, _, _ => none

/-- An operation on one value. -/
def aUn (op : UnOp) (x : AV) : Option AV :=
  match op, x with
  | .not, .bool b => some (.bool !b)
  | _, _ => none

/-- Turning one number into another kind's, where it does not stay as it is. -/
def aWrap (en : Env) (k : IntKind) (e : SI) : Option AV :=
  match k with
  | .u64 => some (.int .u64 (.bop .w64 e (.c 0)))
  | .u32 => some (.int .u32 (.bop .pk (lo32 e) (.c 0)))
  | .i64 => match e with
    | .bop .pk x y => match inR en .i32 y with
      | true => some (.int .i64 (.bop .pks x y))
      | false => none
    | _ => none
  | _ => none
/-- Turning one number into another kind's, where it stays as it is. -/
def aConv (P : Program) (en : Env) (src dst : TypeId) (x : AV) : Option AV :=
  match P.underlying src, P.underlying dst, x with
  | some (.int _), some (.int k), .int _ e => match inR en k e with
    | true => some (.int k e)
    | false => aWrap en k e
  | some (.int _), some (.float .f64), .int _ e => some (.float .f64 (.ofI e))
  | some (.float _), some (.int k), .float .f64 (.ofI e) => match small en e && inR en k e with
    | true => some (.int k e)
    | false => none
  | _, _, _ => none

noncomputable def emO {α : Type} (x : Option AV) (k : AV → EM α) : EM α :=
  match x with
  | none => EM.fail
  | some v => k v
noncomputable def orG (P : Program) (G : Nat) (A : AAct) (o : Oper) (known : Bool) (x : Option AV) : EM AV :=
  match known with
  | true => EM.lift (aGround P G A o)
  | false => EM.lift x

/-- An operation that calls nothing. -/
noncomputable def aOp (P : Program) (G : Nat) (en : Env) (A : AAct) (o : Oper) : EM AV :=
  match o.op with
  | .move x => EM.lift (A.eval G x)
  | .assign x => EM.lift (A.eval G x)
  | .pick c a b => match A.eval G c with
    | some (.bool true) => EM.lift (A.eval G a)
    | some (.bool false) => EM.lift (A.eval G b)
    | _ => EM.fail
  | .alloc el => emO (zeroAV P el) fun z => aNew el z.cells
  | .box el x => emO (A.eval G x) fun v => aNew el v.cells
  | .build t ps => EM.lift (aBuild P G A t ps.toList)
  | .buildSlice t n ps => aBuildSlice P G A t n ps.toList
  | .load t a => emO (A.eval G a) fun p => aLoad P t p
  | .store t a x => emO (A.eval G a) fun p => emO (A.eval G x) fun v => (aStore P t p v).bind fun _ => EM.pure undefAV
  | .nilCheck x => match A.eval G x with
    | some (.ptr l off) => EM.pure (.ptr l off)
    | some (.func (.func f) a b) => EM.pure (.func (.func f) a b)
    | _ => EM.fail
  | .binOp op t x y _ => emO (A.eval G x) fun u => emO (A.eval G y) fun v => orG P G A o (knownAV u && knownAV v) (aBin P en op t u v)
  | .unOp op _ x => emO (A.eval G x) fun u => orG P G A o (knownAV u) (aUn op u)
  | .convert src dst x => emO (A.eval G x) fun u => orG P G A o (knownAV u) (aConv P en src dst u)
  | .makeInterface t x => match P.underlying t with
    | some (.interface _) => EM.fail
    | some _ => emO (A.eval G x) fun v => EM.pure (.iface t v)
    | none => EM.fail
  | .makeFunc fn first cap => match A.evals G first.toList, A.evals G cap.toList with
    | some a, some b => EM.pure (.func fn a b)
    | _, _ => EM.fail
  | .makeMap _ none => (newO (.map [] (some 0))).bind fun l => EM.pure (.map l)
  | .makeSlice t l c => emO (A.eval G l) fun m => emO (A.eval G c) fun n => aMakeSlice P t m n
  | .slice t x lo hi mx => match isSl P t with
    | true => aSlice P G A t x lo hi mx
    | false => EM.lift (aGround P G A o)
  | .fieldAddr s x f => emO (A.eval G x) fun p => EM.lift (aFieldAddr P s p f)
  | .field s x f => emO (A.eval G x) fun p => EM.lift (aField P s p f)
  | .indexAddr t x ix => emO (A.eval G x) fun p => emO (A.eval G ix) fun i => EM.lift (aIndexAddr P t p i)
  | .index t x ix => emO (A.eval G x) fun p => emO (A.eval G ix) fun i => match p with
    | .agg _ => EM.lift (aIndex P t p i)
    | _ => EM.lift (aGround P G A o)
  | .lookup t x k ok => emO (A.eval G x) fun p => emO (A.eval G k) fun i => aLookup P en t p i ok
  | .mapUpdate t m k x => emO (A.eval G m) fun p => emO (A.eval G k) fun i => emO (A.eval G x) fun v => (aMapUpdate P en t p i v).bind fun _ => EM.pure undefAV
  | .insert t m k x => emO (A.eval G m) fun p => emO (A.eval G k) fun i => emO (A.eval G x) fun v => (aMapUpdate P en t p i v).bind fun _ => EM.pure undefAV
  | .mapEntry t m k => emO (A.eval G m) fun p => emO (A.eval G k) fun i => aMapEntry P en t p i
  | .entryStore _ m s x => emO (A.eval G m) fun p => emO (A.eval G s) fun i => emO (A.eval G x) fun v => (aEntryStore p i v).bind fun _ => EM.pure undefAV
  | .extract t i => emO (A.eval G t) fun p => match p with
    | .tuple vs => EM.lift vs[i]?
    | _ => EM.fail
  | _ => EM.fail
end Go.Ab
