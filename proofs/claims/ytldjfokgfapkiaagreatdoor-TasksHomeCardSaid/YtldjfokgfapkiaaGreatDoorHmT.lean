/-
  TasksHome: one turn, from the state SG to SG.
-/
import Derived.Test.YtldjfokgfapkiaaGreatDoorHmSG
namespace Go.Proofs.YtldjfokgfapkiaaGreatDoor
open Go Go.Ab
set_option maxRecDepth 1000000
set_option maxHeartbeats 0
namespace Hm
def T_rl : List Nat := [0, 1, 2, 3, 4, 5, 6, 7, 8, 9, 10, 112, 383, 13, 14, 15, 354, 195, 18, 19, 20, 21, 22, 23, 24, 25, 26, 27, 28, 31, 32, 33, 34, 35, 36, 205, 393, 37]
def T_sg : List SI := [(.v 0 0), (.v 1 0), (.bop .add (.v 2 0) (.v 4 0)), (.bop .add (.v 3 0) (.v 5 0)), (.bop .mx (.c (-4)) (.bop .mn (.c 4) (.bop .sub (.v 0 0) (.bop .add (.v 2 0) (.v 4 0))))), (.bop .mx (.c (-4)) (.bop .mn (.c 4) (.bop .sub (.v 1 0) (.bop .add (.v 3 0) (.v 5 0))))), (.v 6 1), (.v 4 0), (.v 5 0), (.bop .pk (.v 4 0) (.v 5 0)), (.v 12 0), (.v 13 0), (.v 14 0), (.v 9 0), (.bop .pk (.v 2 0) (.v 3 0)), (.v 11 0)]
theorem T_ok : turns 5 SG T_sg T_rl SG = true := by kernel_rfl
end Hm
end Go.Proofs.YtldjfokgfapkiaaGreatDoor
