/-
  Cases of RoundsNone, run by the kernel: rounds ahead 6 to 8. No conditions.
-/
import Derived.Test.YtcihabdmigpklaaGreatDoorFnsG
namespace Go.Proofs.YtcihabdmigpklaaGreatDoor
open Go Go.Abs Go.Abs.F
set_option maxRecDepth 100000
theorem none_6_0 : noneOk 6 0 = true := by kernel_rfl
theorem none_6_1 : noneOk 6 1 = true := by kernel_rfl
theorem none_7_0 : noneOk 7 0 = true := by kernel_rfl
theorem none_7_1 : noneOk 7 1 = true := by kernel_rfl
theorem none_8_0 : noneOk 8 0 = true := by kernel_rfl
theorem none_8_1 : noneOk 8 1 = true := by kernel_rfl
end Go.Proofs.YtcihabdmigpklaaGreatDoor
