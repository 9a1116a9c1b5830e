/-
  TasksHome: behind the last turn: the loop ends, and the answer is true.
-/
import Derived.Test.YtldjfokgfapkiaaGreatDoorHmSG
namespace Go.Proofs.YtldjfokgfapkiaaGreatDoor
open Go Go.Ab
set_option maxRecDepth 1000000
set_option maxHeartbeats 0
namespace Hm
/-- Behind sixty turns: the vehicle is where it is to be, and stands. -/
def tau : List SI := [.v 0 0, .v 1 0, .v 0 0, .v 1 0, .c 0, .c 0, .c 60, .c 0, .c 0, .c 0]
def enL : Env := [(-100,100),(-100,100)]
/-- Does a run of the function's code end with the answer true? -/
noncomputable def saysTrue (r : Option ((AX × AAct) × St)) : Bool :=
  match r with
  | some ((.ret, A'), s') => match Tryz.prog.funcs[3]? with
    | some fn => match aResults Tryz.prog A' fn.results.toList s' with
      | some ([.bool true], _) => true
      | _ => false
    | none => false
  | _ => false
theorem L_ok : saysTrue (lastRun Tryz.prog 6 enL (hTrunc enL 102) (aFun Tryz.prog 6 enL (hTrunc enL 102) 100000 60) 100000 (findId sp) (findLoop sp) (behind sp) (SG.sub tau).act (SG.sub tau).st) = true := by kernel_rfl
end Hm
end Go.Proofs.YtldjfokgfapkiaaGreatDoor
