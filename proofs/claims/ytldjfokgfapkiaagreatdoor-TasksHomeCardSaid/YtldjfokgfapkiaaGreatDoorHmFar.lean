/-
  TasksHome: a goal that is too far away: the answer is that of the chapter's examples: true.
-/
import Derived.Test.YtldjfokgfapkiaaGreatDoorHmLib
namespace Go.Proofs.YtldjfokgfapkiaaGreatDoor
open Go Go.Ab
set_option maxRecDepth 1000000
set_option maxHeartbeats 0
namespace Hm
noncomputable def farRun (en : Env) : Option (AV × St) := aFun Tryz.prog 6 en (fun _ _ => none) 100000 60 3 [.int .i64 (.v 0 0), .int .i64 (.v 1 0)] ⟨H0, 6, 0, []⟩
def isTrue (r : Option (AV × St)) : Bool :=
  match r with
  | some (.bool true, _) => true
  | _ => false
theorem far1 : isTrue (farRun [(-9223372036854775808, -101), (-9223372036854775808, 9223372036854775807)]) = true := by kernel_rfl
theorem far2 : isTrue (farRun [(101, 9223372036854775807), (-9223372036854775808, 9223372036854775807)]) = true := by kernel_rfl
theorem far3 : isTrue (farRun [(-100, 100), (-9223372036854775808, -101)]) = true := by kernel_rfl
theorem far4 : isTrue (farRun [(-100, 100), (101, 9223372036854775807)]) = true := by kernel_rfl
end Hm
end Go.Proofs.YtldjfokgfapkiaaGreatDoor
