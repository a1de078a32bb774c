/-
  Cases of RoundsNone, run by the kernel: rounds ahead 3 to 5. No conditions.
-/
import Derived.Test.YtcihabdmigpklaaGreatDoorFnsG
namespace Go.Proofs.YtcihabdmigpklaaGreatDoor
open Go Go.Abs Go.Abs.F
set_option maxRecDepth 100000
theorem none_3_0 : noneOk 3 0 = true := by kernel_rfl
theorem none_3_1 : noneOk 3 1 = true := by kernel_rfl
theorem none_4_0 : noneOk 4 0 = true := by kernel_rfl
theorem none_4_1 : noneOk 4 1 = true := by kernel_rfl
theorem none_5_0 : noneOk 5 0 = true := by kernel_rfl
theorem none_5_1 : noneOk 5 1 = true := by kernel_rfl
end Go.Proofs.YtcihabdmigpklaaGreatDoor
