/-
  WHAT THE TEXTS ON TasksHome SHARE: the program's pieces, the bounds of the numbers, the two tables.
-/
import Derived.Test.YtldjfokgfapkiaaGreatDoorAbLast
import Derived.Test.YtldjfokgfapkiaaGreatDoorAbHook
import Derived.Test.YtldjfokgfapkiaaGreatDoorChecked
import Derived.KernelRfl
namespace Go.Proofs.YtldjfokgfapkiaaGreatDoor
open Go Go.Ab

namespace Hm
def ints (l : List Int) : List AV := l.map fun n => .int .i64 (.c n)
def fieldsL : List Int := [1, 513, 1, 256, 13, 0, 2, 176, 64, 0]
def waysL : List Int := [0,4432,0,0,0,0,0,0, 4112,0,4944,0,0,0,0,4096, 0,0,0,5184,0,0,4096,4096, 0,0,0,0,5568,5248,6144,4096, 0,0,0,5184,0,5248,6144,4096, 0,0,0,5568,0,0,6144,4096, 4112,0,0,5472,0,0,0,4096, 4112,0,0,6080,0,0,4096,0]
/-- The function's body, as a list. -/
noncomputable def sp : List Code := Go.Ab.spine (((Tryz.prog.funcs[3]?).bind (fun f => f.body)).getD .skip)
/-- What lies ahead of the loop. -/
def takeTo : List Code → List Code
  | [] => []
  | .block _ (.loop _) :: _ => []
  | c :: r => c :: takeTo r
/-- The loop's body. -/
def findLoop : List Code → Code
  | [] => .skip
  | .block _ (.loop b) :: _ => b
  | _ :: r => findLoop r
/-- The loop's number. -/
def findId : List Code → Nat
  | [] => 0
  | .block i (.loop _) :: _ => i
  | _ :: r => findId r
/-- What lies behind the loop. -/
def behind : List Code → List Code
  | [] => []
  | .block _ (.loop _) :: r => r
  | _ :: r => behind r
/-- 0, 1: the goal; 2, 3: where the vehicle is; 4, 5: how fast it goes; 6: the turn; 7, 8: how fast it went; 9 and on: words of records. -/
def en : Env := [(-100,100),(-100,100),(-100,100),(-100,100),(-4,4),(-4,4),(4,59),(-4,4),(-4,4)] ++ List.replicate 7 (0, 18446744073709551615)
noncomputable def cc : FuncId → List AV → EM AV := aFun Tryz.prog 6 en (hTrunc en 102) 100000 60
noncomputable def H0 : Tr AObj := (Tr.leaf.set 0 (.cells true false 3 (ints fieldsL))).set 2 (.cells true false 3 (ints waysL))
noncomputable def A0 : AAct := ⟨169, initTm 0 [.int .i64 (.v 0 0), .int .i64 (.v 1 0)] .leaf⟩
/-- Some rounds of the loop, from one state to another. -/
noncomputable def turns (n : Nat) (x : Ab.Lit) (σ : List SI) (rl : List Nat) (y : Ab.Lit) : Bool :=
  endsIn 6 σ rl (runX Tryz.prog 6 en (hTrunc en 102) cc 100000 (List.replicate n (findLoop sp)) x.act x.st) y
end Hm
end Go.Proofs.YtldjfokgfapkiaaGreatDoor
