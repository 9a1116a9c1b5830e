/-
  FUNCTIONS, reckoned on values that know no address.
-/
import Derived.Test.YtldjfokgfapkiaaGreatDoorAbOps
namespace Go.Ab

inductive AX where
  | normal
  | exit (id : Nat)
  | goto (l : Nat)
  | ret

abbrev Hook := FuncId → List AV → Option AV

noncomputable def AAct.put {β : Type} (A : AAct) (dst : Option Nat) (v : AV) (k : Option AAct → β) : β :=
  match dst with
  | none => k (some A)
  | some d => match Nat.blt d A.N with
    | true => Tr.setK v d A.tm d fun tm => k (some ⟨A.N, tm⟩)
    | false => k none

/-- Is an operation wanted? (none: the test's value is not known) -/
noncomputable def aWanted (ops : Array Oper) (A : AAct) (o : Oper) : Option Bool :=
  match o.guard with
  | none => some true
  | some (j, want) => match (ops[j]?).bind (·.dst) with
    | none => some false
    | some d => match Nat.blt d A.N, A.get d with
      | true, .bool b => some (b == want)
      | true, _ => some false
      | false, _ => none

/-- What a function's results are. -/
noncomputable def aResult (P : Program) (A : AAct) : ResultVar → EM AV
  | .tmp t => EM.pure (A.get t)
  | .cell a t => aLoad P t (A.get a)
noncomputable def aResults (P : Program) (A : AAct) : List ResultVar → EM (List AV)
  | [] => EM.pure []
  | r :: rs => (aResult P A r).bind fun v => (aResults P A rs).bind fun vs => EM.pure (v :: vs)
def one (vs : List AV) : AV :=
  match vs with
  | [v] => v
  | vs => .tuple vs

section
variable (P : Program) (G : Nat) (en : Env) (hook : Hook) (call : FuncId → List AV → EM AV)

/-- A call of a function of which the body is known, or that a hook tells. -/
noncomputable def aEnter (f : FuncId) (args : List AV) : EM AV :=
  match hook f args with
  | some v => EM.pure v
  | none => match P.funcs[f]? with
    | none => EM.fail
    | some fn => match fn.body with
      | some _ => match fn.name == "runtime.NumGoroutine" with
        | true => EM.fail
        | false => call f args
      | none => EM.fail

noncomputable def isExtern (f : FuncId) : Bool :=
  match P.funcs[f]? with
  | none => false
  | some fn => fn.body.isNone

/-- An operation. -/
noncomputable def aOper (A : AAct) (o : Oper) : EM AV :=
  match o.op with
  | .call c => match c.callee with
    | .builtin b => match A.evals G c.args.toList with
      | none => EM.fail
      | some args => match aBuiltin P en b c.argTypes.toList args with
        | some m => m
        | none => EM.lift (aGround P G A o)
    | .value x => match A.eval G x, A.evals G c.args.toList with
      | some (.func (.func f) first cap), some args => match hook f (first ++ (args ++ cap)), isExtern P f with
        | none, true => EM.lift (aGround P G A o)
        | _, _ => aEnter P hook call f (first ++ (args ++ cap))
      | _, _ => EM.fail
    | .invoke _ _ => EM.fail
  | _ => aOp P G en A o

/-- The operations of a region, in their order. -/
noncomputable def aOps (ops : Array Oper) : List Oper → AAct → EM AAct
  | [], A => EM.pure A
  | o :: rest, A => match aWanted ops A o with
    | none => EM.fail
    | some true => (aOper P G en hook call A o).bind fun v => A.put o.dst v fun
      | some A' => aOps ops rest A'
      | none => EM.fail
    | some false => A.put o.dst undefAV fun
      | some A' => aOps ops rest A'
      | none => EM.fail

def keepLt (wm : Nat) : List (Nat × Bool) → List (Nat × Bool) → List (Nat × Bool)
  | [], r => r
  | (l, b) :: xs, r => match Nat.blt l wm with
    | true => (l, b) :: keepLt wm xs r
    | false => keepLt wm xs r
/-- A step whose looks at memory are told: with what it gives come the number of places ahead of it, what it looked at, and the number behind it. -/
noncomputable def told {α : Type} (m : EM α) : EM (α × (Nat × (List (Nat × Bool) × Nat))) := fun s =>
  match m ⟨s.H, s.n, s.n, []⟩ with
  | none => none
  | some (a, s') => some ((a, (s.n, (s'.log, s'.n))), ⟨s'.H, s'.n, s.wm, keepLt s.wm s'.log s.log⟩)

abbrev Told := Nat × (List (Nat × Bool) × Nat)

/-- A step whose looks are told, and that leaves memory as it was: once more, of something that was done. -/
noncomputable def again {α : Type} (m : EM α) : EM (α × (Nat × (List (Nat × Bool) × Nat))) := fun s =>
  match m ⟨s.H, s.n, s.n, []⟩ with
  | none => none
  | some (a, s') => some ((a, (s.n, (s'.log, s'.n))), ⟨s.H, s.n, s.wm, keepLt s.wm s'.log s.log⟩)

/-- Two values that stand for the same. -/
def avSame : AV → AV → Bool
  | .int k a, .int k' b => decide (k = k') && siEq a b
  | .bool a, .bool b => a == b
  | .nils, .nils => true
  | .nilp, .nilp => true
  | _, _ => false

/-- What was done ahead: its place, the slots then, the operation, its value. -/
abbrev Pend := Nat × (AAct × (Oper × AV))
/-- A reader, a writer behind it, and what the reader looked at as it was done once more behind the writer. -/
abbrev Odd := Nat × (Nat × Told)
def isLook (o : Oper) : Bool := match o.op with | .lookup .. => true | _ => false
def isEntry (o : Oper) : Bool := match o.op with | .mapEntry .. => true | _ => false
/-- The lookups that may also come behind an operation, done once more behind it. -/
noncomputable def rechecks (b k : Nat) : List Pend → EM (List Odd)
  | [] => EM.pure []
  | (r, (A, (o, v))) :: rest => match Nat.testBit b r || !isLook o with
    | true => rechecks b k rest
    | false => (again (aOper P G en hook call A o)).bind fun (v', t) => match avSame v' v with
      | true => (rechecks b k rest).bind fun l => EM.pure ((r, (k, t)) :: l)
      | false => EM.fail
noncomputable def rechecksAt (o : Oper) (b k : Nat) (pend : List Pend) : EM (List Odd) :=
  match isEntry o with
  | true => rechecks P G en hook call b k pend
  | false => EM.pure []

/-- The operations of a region that may be done in any order: in their own order, each one's looks told. -/
noncomputable def aOpsD (ops : Array Oper) : Nat → List Pend → List Nat → List Oper → AAct → EM (AAct × (List Told × List Odd))
  | _, _, _, [], A => EM.pure (A, ([], []))
  | k, pend, bs, o :: rest, A => match aWanted ops A o with
    | none => EM.fail
    | some true => (told (aOper P G en hook call A o)).bind fun (v, t) => A.put o.dst v fun
      | some A' => (rechecksAt P G en hook call o (bs.headD 0) k pend).bind fun od => (aOpsD ops (k + 1) ((k, (A, (o, v))) :: pend) bs.tail rest A').bind fun (A2, (ts, ods)) => EM.pure (A2, (t :: ts, od ++ ods))
      | none => EM.fail
    | some false => (told (EM.pure undefAV)).bind fun (v, t) => A.put o.dst v fun
      | some A' => (aOpsD ops (k + 1) pend bs.tail rest A').bind fun (A2, (ts, ods)) => EM.pure (A2, (t :: ts, ods))
      | none => EM.fail

/-- Does a place stand in a list, with a mark? -/
def hasLog (l : Nat) (b : Bool) : List (Nat × Bool) → Bool
  | [] => false
  | (k, c) :: r => (Nat.beq k l && (c || b)) || hasLog l b r
/-- Do two looks meet, of which one writes? -/
def meets : List (Nat × Bool) → List (Nat × Bool) → Bool
  | [], _ => false
  | (l, b) :: r, xs => hasLog l b xs || meets r xs
/-- Does a look go to what was made between two numbers? -/
def within (a b : Nat) : List (Nat × Bool) → Bool
  | [] => false
  | (l, _) :: r => (Nat.ble a l && Nat.blt l b) || within a b r
/-- Two operations, the second one behind the first: may they be done in the other order? -/
def free2 (x y : Told) : Bool := !meets x.2.1 y.2.1 && !within x.1 x.2.2 y.2.1

/-- Which operations lie ahead of which, by the edges that always hold: bits. -/
def aheadOf (ops : Array Oper) : Array Nat := Region.before ops
def hasOdd (i j : Nat) : List Odd → Bool
  | [] => false
  | (r, (k, _)) :: l => (Nat.beq r i && Nat.beq k j) || hasOdd i j l
/-- One operation against all behind it. -/
def freeOf (ods : List Odd) (i : Nat) (x : Told) (j : Nat) : List Told → List Nat → Bool
  | [], _ => true
  | y :: r, b :: bs => (Nat.testBit b i || (free2 x y || hasOdd i j ods)) && freeOf ods i x (j + 1) r bs
  | _ :: _, [] => false
def freeAll (ods : List Odd) (i : Nat) : List Told → List Nat → Bool
  | [], _ => true
  | x :: r, _ :: bs => freeOf ods i x (i + 1) r bs && freeAll ods (i + 1) r bs
  | _ :: _, [] => false
def noWrites : List (Nat × Bool) → Bool
  | [] => true
  | (_, b) :: r => !b && noWrites r
def subLog : List (Nat × Bool) → List (Nat × Bool) → Bool
  | [], _ => true
  | (l, _) :: r, xs => hasLog l true xs && subLog r xs
/-- None of these writes what the reader looked at. -/
def noneBetween (x : List (Nat × Bool)) : List Told → Bool
  | [] => true
  | y :: r => !meets x y.2.1 && noneBetween x r
/-- A reader that may be overtaken. -/
def oddFine (ts : List Told) : Odd → Bool
  | (r, (k, t)) => match ts[r]? with
    | none => false
    | some x => noWrites x.2.1 && (Nat.beq x.1 x.2.2 && (noWrites t.2.1 && (Nat.beq t.1 t.2.2 && (subLog t.2.1 x.2.1 && (Nat.blt r k && noneBetween x.2.1 ((ts.take k).drop (r + 1)))))))
def hasReader (r : Nat) : List Odd → Bool
  | [] => false
  | (q, _) :: l => Nat.beq q r || hasReader r l
def oddsFine (ts : List Told) : List Odd → Bool
  | [] => true
  | x :: l => oddFine ts x && (!hasReader x.1 l && oddsFine ts l)

/-- The slots: any two operations of which none lies ahead of the other look at none that the other one writes. -/
def apartOf (ops : Array Oper) (i : Nat) (x : Oper) : List Oper → List Nat → Bool
  | [], _ => true
  | y :: r, b :: bs => (Nat.testBit b i || x.apart ops y) && apartOf ops i x r bs
  | _ :: _, [] => false
def apartAll (ops : Array Oper) (i : Nat) : List Oper → List Nat → Bool
  | [], _ => true
  | x :: r, _ :: bs => apartOf ops i x r bs && apartAll ops (i + 1) r bs
  | _ :: _, [] => false
def okRegion (ops : Array Oper) : Bool :=
  Region.noSelect ops && (apartAll ops 0 ops.toList (aheadOf ops).toList && ops.toList.zipIdx.all fun (o, i) => o.after.all fun e => !Region.binds .any e || Nat.blt e.on i)

noncomputable def aRegion (ops : Array Oper) (draw : Bool) (A : AAct) : EM AAct :=
  match draw with
  | false => aOps P G en hook call ops ops.toList A
  | true => match okRegion ops with
    | false => EM.fail
    | true => (aOpsD P G en hook call ops 0 [] (aheadOf ops).toList ops.toList A).bind fun (A', (ts, ods)) => match freeAll ods 0 ts (aheadOf ops).toList && oddsFine ts ods with
      | true => EM.pure A'
      | false => EM.fail

/-- Code. 'sc': the body of the scope whose jumps are to be seen to. -/
noncomputable def aCode : Nat → Option Code → Code → AAct → EM (AX × AAct)
  | 0, _, _, _ => EM.fail
  | L + 1, some body, c, A => (aCode L none c A).bind fun (x, A') => match x with
    | .goto l => match findLabel body l with
      | some rest => aCode L (some body) rest A'
      | none => EM.pure (.goto l, A')
    | x => EM.pure (x, A')
  | L + 1, none, c, A => match c with
    | .skip => EM.pure (.normal, A)
    | .label _ => EM.pure (.normal, A)
    | .region _ ops draw => (aRegion P G en hook call ops draw A).bind fun A' => EM.pure (.normal, A')
    | .seq a b => (aCode L none a A).bind fun (x, A') => match x with
      | .normal => aCode L none b A'
      | x => EM.pure (x, A')
    | .cond c t e => match A.eval G c with
      | some (.bool true) => aCode L none t A
      | some (.bool false) => aCode L none e A
      | _ => EM.fail
    | .block id body => (aCode L none body A).bind fun (x, A') => match x with
      | .exit id' => match Nat.beq id' id with
        | true => EM.pure (.normal, A')
        | false => EM.pure (.exit id', A')
      | x => EM.pure (x, A')
    | .loop body => (aCode L none body A).bind fun (x, A') => match x with
      | .normal => aCode L none (.loop body) A'
      | x => EM.pure (x, A')
    | .exit id => EM.pure (.exit id, A)
    | .goto l => EM.pure (.goto l, A)
    | .ret => EM.pure (.ret, A)
    | .scope body => aCode L (some body) body A
    | _ => EM.fail
end

/-- The slots as a function begins. -/
noncomputable def initTm : Nat → List AV → Tr AV → Tr AV
  | _, [], t => t
  | i, v :: vs, t => Tr.setK v i t i fun t' => initTm (i + 1) vs t'

/-- A function's body, the calls in it by 'call'. -/
noncomputable def aBody (P : Program) (G : Nat) (en : Env) (hook : Hook) (L : Nat) (call : FuncId → List AV → EM AV) (f : FuncId) (args : List AV) : EM AV :=
  match P.funcs[f]? with
  | none => EM.fail
  | some fn => match fn.body with
    | none => EM.fail
    | some c => (aCode P G en hook call L none c ⟨args.length + (fn.ntmps - args.length), initTm 0 args .leaf⟩).bind fun (x, A) => match x with
      | .normal => (aResults P A fn.results.toList).bind fun vs => EM.pure (one vs)
      | .ret => (aResults P A fn.results.toList).bind fun vs => EM.pure (one vs)
      | _ => EM.fail

/-- A call, so many calls deep. -/
noncomputable def aFun (P : Program) (G : Nat) (en : Env) (hook : Hook) (L : Nat) (D : Nat) : FuncId → List AV → EM AV :=
  Nat.rec (motive := fun _ => FuncId → List AV → EM AV) (fun _ _ => EM.fail) (fun _ call => aBody P G en hook L call) D
end Go.Ab
